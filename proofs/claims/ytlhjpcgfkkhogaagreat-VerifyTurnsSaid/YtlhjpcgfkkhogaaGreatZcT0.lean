/- Go functions, as the interpreter runs them: written by a program of this claim's own, proved to be what the compiler makes of them. No condition. -/
import Derived.Test.YtlhjpcgfkkhogaaGreatZcSym
import Derived.Test.YtlhjpcgfkkhogaaGreatProg
import Derived.Test.YtlhjpcgfkkhogaaGreatZcKt
set_option linter.all false
namespace Go.Proofs.YtlhjpcgfkkhogaaGreat.Zt
open Go Go.Zc
set_option maxRecDepth 100000

/-! ### balise/baliselaw06.VerifyTurns -/
def l06_VerifyTurns_C : CCode :=
 (.seq
 (.ops [
 (sP 6 .mov [.c (.bool false)])])
 (.seq
 (.seq
 (.ops [
 (sC 11 9 []),
 (sP 12 (.un .not) [.t 11])])
 (.cond (.t 12)
 (.seq
 (.ops [
 (sP 6 .mov [.c (.bool false)])])
 (.ret [6]))
 .skip))
 (.seq
 (.ops [
 (sM 13 0),
 (sP 14 (.toInt .i64) [.t 13]),
 (sP 15 (.bin .add .ifc) [.c (.int .i64 100), .t 14]),
 (sP 16 (.toFloat .f64) [.t 15]),
 (sM 17 1),
 (sP 18 (.toFloat .f64) [.t 17]),
 (sP 19 .cplx [.t 16, .t 18]),
 (sM 7 19)])
 (.seq
 (.ops [
 (sM 20 7),
 (sH 21 (.bslF 1 3 [(.cplx .f64 0 0)] [(0, 1), (1, 1), (2, 1)]) [.c (.cplx .f64 0 0), .c (.cplx .f64 4636737291354636288 0), .t 20]),
 (sP 22 (.bld [(.int .i64 0), (.int .i64 0), (.int .i64 0)] [(0, 1), (1, 1), (2, 1)]) [.c (.int .i64 100), .c (.int .i64 0), .c (.int .i64 1)]),
 (sM 23 2),
 (sP 24 (.toInt .i64) [.t 23]),
 (sP 25 (.bin .add .ifc) [.c (.int .i64 100), .t 24]),
 (sP 26 (.bld [(.int .i64 0), (.int .i64 0), (.int .i64 0)] [(0, 1), (1, 1), (2, 1)]) [.t 25, .c (.int .i64 2), .c (.int .i64 1)]),
 (sH 27 (.bslF 3 2 [(.int .i64 0), (.int .i64 0), (.int .i64 0)] [(0, 3), (3, 3)]) [.t 22, .t 26]),
 (sH 28 (.bslF 1 2 [(.int .i64 0)] [(0, 1), (1, 1)]) [.c (.int .i64 0), .c (.int .i64 1)]),
 (sH 29 (.bslF 1 1 [.nils] [(0, 1)]) [.t 28]),
 (sP 30 (.bld [.nils, .nils, .nils, .nils, .nils, (.int .i64 0), (.int .i64 0), (.int .i64 0), (.int .i64 0), (.int .i64 0)] [(0, 1), (1, 1), (2, 1), (5, 1), (6, 1), (7, 1), (8, 1)]) [.t 21, .t 27, .t 29, .c (.int .i64 100), .c (.int .i64 1), .c (.int .i64 1), .c (.int .i64 1)]),
 (sH 8 (.newl 8 [.nils, .nils, .nils, .nils, .nils, (.int .i64 0), (.int .i64 0), (.int .i64 0), (.int .i64 0), (.int .i64 0)]) []),
 (sHn (.store 10) [.t 8, .t 30])])
 (.seq
 (.ops [
 (sH 32 (.load true 10) [.t 8]),
 (sC 33 17 [.t 32]),
 (sM 31 33),
 (sP 34 (.ext 0) [.t 31]),
 (sP 35 (.ext 1) [.t 31]),
 (sM 9 34),
 (sM 10 35)])
 (.seq
 (.ops [
 (sH 36 (.load true 10) [.t 8]),
 (sC 37 13 [.t 36]),
 (sM 38 37),
 (sG (sM 39 7) 38 true),
 (sG (sP 40 (.bin .eql .ifc) [.t 39, .c (.cplx .f64 0 0)]) 38 true),
 (sG (sM 41 40) 38 true),
 (sG (sM 42 7) 41 false),
 (sG (sP 43 (.bin .eql .ifc) [.t 42, .c (.cplx .f64 4636737291354636288 0)]) 41 false),
 (sG (sP 44 .pick [.t 41, .c (.bool true), .t 43]) 38 true),
 (sG (sM 45 44) 38 true),
 (sG (sM 46 7) 45 false),
 (sG (sP 47 (.bin .sub .ifc) [.t 46, .c (.cplx .f64 4636737291354636288 0)]) 45 false),
 (sG (sM 48 7) 45 false),
 (sG (sP 49 (.bin .sub .ifc) [.t 48, .c (.cplx .f64 4636737291354636288 0)]) 45 false),
 (sG (sC 50 18 [.t 47, .t 49]) 45 false),
 (sG (sM 51 2) 45 false),
 (sG (sP 52 (.toInt .i64) [.t 51]) 45 false),
 (sG (sP 53 (.bin .add .ifc) [.c (.int .i64 100), .t 52]) 45 false),
 (sG (sM 54 2) 45 false),
 (sG (sP 55 (.toInt .i64) [.t 54]) 45 false),
 (sG (sP 56 (.bin .add .ifc) [.c (.int .i64 100), .t 55]) 45 false),
 (sG (sP 57 (.bin .mul .ifc) [.t 53, .t 56]) 45 false),
 (sG (sP 58 (.bin .gtr .ifc) [.t 50, .t 57]) 45 false),
 (sG (sP 59 .pick [.t 45, .c (.bool true), .t 58]) 38 true),
 (sG (sM 60 59) 38 true),
 (sG (sM 61 9) 60 false),
 (sG (sP 62 (.bin .eql .int) [.t 61, .c (.int .i64 12)]) 60 false),
 (sG (sM 63 0) 60 false),
 (sG (sP 64 (.bin .leq .ifc) [.t 63, .c (.int .i8 0)]) 60 false),
 (sG (sP 65 (.bin .eql .bool) [.t 62, .t 64]) 60 false),
 (sG (sP 66 .pick [.t 60, .c (.bool true), .t 65]) 38 true),
 (sP 67 .pick [.t 38, .t 66, .c (.bool false)]),
 (sM 6 67)])
 (.ret [6])))))))
def l06_VerifyTurns_I : FInfo := ⟨(.fz false), 3, l06_VerifyTurns_C, [.tmp 6]⟩
def l06_VerifyTurns_A : Ann := ⟨[], [], [], [], [8]⟩
abbrev n_l06_VerifyTurns : Nat := 7

/-! ### balise/baliselaw06.nothing -/
def l06_nothing_C : CCode :=
 (.seq
 (.ops [
 (sP 0 .mov [.c (.bool false)])])
 (.seq
 (.ops [
 (sP 4 (.bld [.nils, .nils, .nils, .nils, .nils, (.int .i64 0), (.int .i64 0), (.int .i64 0), (.int .i64 0), (.int .i64 0)] []) []),
 (sC 5 17 [.t 4]),
 (sM 3 5),
 (sP 6 (.ext 0) [.t 3]),
 (sP 7 (.ext 1) [.t 3]),
 (sM 1 6),
 (sM 2 7)])
 (.seq
 (.ops [
 (sM 8 1),
 (sP 9 (.bin .eql .int) [.t 8, .c (.int .i64 1)]),
 (sM 10 9),
 (sG (sM 11 2) 10 true),
 (sG (sP 12 (.bin .eql .int) [.t 11, .c (.int .i64 0)]) 10 true),
 (sP 13 .pick [.t 10, .t 12, .c (.bool false)]),
 (sM 14 13),
 (sG (sP 15 (.bld [(.int .u8 0), (.int .u8 0), (.int .u8 0), (.int .u16 0), (.int .u16 0), (.int .u8 0), (.int .u8 0), (.int .u8 0), .nils] []) []) 14 true),
 (sG (sC 16 14 [.t 15]) 14 true),
 (sG (sC 17 12 [.t 16]) 14 true),
 (sP 18 .pick [.t 14, .t 17, .c (.bool false)]),
 (sM 0 18)])
 (.ret [0]))))
def l06_nothing_I : FInfo := ⟨(.fz false), 0, l06_nothing_C, [.tmp 0]⟩
def l06_nothing_A : Ann := ⟨[], [], [], [], []⟩
abbrev n_l06_nothing : Nat := 9

/-! ### balise/baliselaw06.judged -/
def l06_judged_C : CCode :=
 (.seq
 (.ops [
 (sH 1 (.box 1) [.t 0]),
 (sP 2 .mov [.c (.bool false)])])
 (.seq
 (.ops [
 (sH 8 (.load true 10) [.t 1]),
 (sC 9 17 [.t 8]),
 (sM 7 9),
 (sP 10 (.ext 0) [.t 7]),
 (sP 11 (.ext 1) [.t 7]),
 (sM 3 10),
 (sM 4 11)])
 (.seq
 (.ops [
 (sH 13 (.load true 10) [.t 1]),
 (sC 14 19 [.t 13]),
 (sM 12 14),
 (sP 15 (.ext 0) [.t 12]),
 (sP 16 (.ext 1) [.t 12]),
 (sM 5 15),
 (sM 6 16)])
 (.seq
 (.ops [
 (sM 17 3),
 (sM 18 5),
 (sP 19 (.bin .eql .int) [.t 17, .t 18]),
 (sM 20 19),
 (sG (sM 21 4) 20 true),
 (sG (sM 22 6) 20 true),
 (sG (sP 23 (.bin .eql .int) [.t 21, .t 22]) 20 true),
 (sP 24 .pick [.t 20, .t 23, .c (.bool false)]),
 (sM 25 24),
 (sG (sH 26 (.load true 10) [.t 1]) 25 true),
 (sG (sC 27 12 [.t 26]) 25 true),
 (sG (sM 28 5) 25 true),
 (sG (sP 29 (.bin .eql .int) [.t 28, .c (.int .i64 0)]) 25 true),
 (sG (sP 30 (.bin .eql .bool) [.t 27, .t 29]) 25 true),
 (sP 31 .pick [.t 25, .t 30, .c (.bool false)]),
 (sM 2 31)])
 (.ret [2])))))
def l06_judged_I : FInfo := ⟨(.fz false), 1, l06_judged_C, [.tmp 2]⟩
def l06_judged_A : Ann := ⟨[], [], [], [], [1]⟩
abbrev n_l06_judged : Nat := 13

/-! ### balise/verify.Right -/
def verify_Right_C : CCode :=
 (.seq
 (.ops [
 (sH 1 (.box 1) [.t 0]),
 (sP 2 .mov [.c (.bool false)])])
 (.seq
 (.ops [
 (sH 6 (.load true 10) [.t 1]),
 (sC 7 17 [.t 6]),
 (sM 5 7),
 (sP 8 (.ext 0) [.t 5]),
 (sP 9 (.ext 1) [.t 5]),
 (sM 3 8),
 (sM 4 9)])
 (.seq
 (.ops [
 (sM 10 3),
 (sP 11 (.bin .eql .int) [.t 10, .c (.int .i64 0)]),
 (sM 2 11)])
 (.ret [2]))))
def verify_Right_I : FInfo := ⟨(.fz false), 1, verify_Right_C, [.tmp 2]⟩
def verify_Right_A : Ann := ⟨[], [], [], [], [1]⟩
abbrev n_verify_Right : Nat := 12

/-! ### balise/verify.First -/
def verify_First_B2 : CCode :=
 (.seq
 (.ops [
 (sP 25 (.bin .lss .ifc) [.t 24, .t 23])])
 (.seq
 (.cond (.t 25)
 .skip
 (.exit 2))
 (.seq
 (.block 3 (some [5, 15, 16, 17, 22, 23, 24])
 (.seq
 (.ops [
 (sP 26 (.iaddr 2) [.t 22, .t 24]),
 (sH 27 (.load true 2) [.t 26]),
 (sH 8 (.newl 8 [(.int .i64 0), .nilf]) []),
 (sHn (.store 2) [.t 8, .t 27])])
 (.seq
 (.ops [
 (sH 28 (.load true 2) [.t 8]),
 (sC 29 24 [.t 28]),
 (sM 9 29)])
 (.seq
 (.ops [
 (sM 30 9),
 (sP 31 (.bin .geq .ifc) [.t 30, .c (.int .i64 0)])])
 (.cond (.t 31)
 (.seq
 (.ops [
 (sM 32 5),
 (sP 33 (.bin .add .ifc) [.t 32, .c (.int .i64 1)]),
 (sM 34 9),
 (sM 2 33),
 (sM 3 34)])
 (.ret [2, 3]))
 .skip)))))
 (.ops [
 (sP 35 (.bin .add .ifc) [.t 24, .c (.int .i64 1)]),
 (sM 24 35)]))))
def verify_First_L2 : CCode := .bloop 2 [5, 15, 16, 17, 22, 23, 24] [15, 16, 17] verify_First_B2

def verify_First_B0 : CCode :=
 (.seq
 (.ops [
 (sP 18 (.bin .lss .ifc) [.t 17, .t 16])])
 (.seq
 (.cond (.t 18)
 .skip
 (.exit 0))
 (.seq
 (.block 1 (some [15, 16, 17])
 (.seq
 (.ops [
 (sM 19 17),
 (sP 20 (.iaddr 1) [.t 15, .t 17]),
 (sH 21 (.load false 1) [.t 20]),
 (sM 5 19),
 (sM 6 21)])
 (.seq
 (.ops [
 (sM 22 6),
 (sP 23 .len [.t 22]),
 (sP 24 .mov [.c (.int .i64 0)])])
 verify_First_L2)))
 (.ops [
 (sP 36 (.bin .add .ifc) [.t 17, .c (.int .i64 1)]),
 (sM 17 36)]))))
def verify_First_L0 : CCode := .bloop 0 [15, 16, 17] [] verify_First_B0
def verify_First_C : CCode :=
 (.seq
 (.ops [
 (sH 1 (.box 1) [.t 0]),
 (sP 2 .mov [.c (.int .i64 0)]),
 (sP 3 .mov [.c (.int .i64 0)])])
 (.seq
 (.ops [
 (sL 10 1 (.load true 10) [.t 1]),
 (sL 11 1 (.load true 10) [.t 1]),
 (sCb 12 22 [.t 11]),
 (sP 13 (.bld [.nils, .nils, .nils, .nils, .nils, (.int .i64 0), (.int .i64 0), (.int .i64 0), (.int .i64 0), (.int .i64 0), .nilp] [(0, 10), (10, 1)]) [.t 10, .t 12]),
 (sH 4 (.newl 4 [.nils, .nils, .nils, .nils, .nils, (.int .i64 0), (.int .i64 0), (.int .i64 0), (.int .i64 0), (.int .i64 0), .nilp]) []),
 (sLn 4 (.store 11) [.t 4, .t 13])])
 (.seq
 (.seq
 (.ops [
 (sH 14 (.load true 11) [.t 4]),
 (sC 15 23 [.t 14]),
 (sP 16 .len [.t 15]),
 (sP 17 .mov [.c (.int .i64 0)])])
 verify_First_L0)
 (.seq
 (.ops [
 (sP 2 .mov [.c (.int .i64 0)]),
 (sP 3 .mov [.c (.int .i64 0)])])
 (.ret [2, 3])))))
def verify_First_I : FInfo := ⟨(.fz false), 1, verify_First_C, [.tmp 2, .tmp 3]⟩
def verify_First_A : Ann := ⟨[], [], [(0, [15, 16, 17], []), (2, [5, 15, 16, 17, 22, 23, 24], [15, 16, 17])], [(1, [15, 16, 17]), (3, [5, 15, 16, 17, 22, 23, 24])], [1, 4, 8]⟩
abbrev n_verify_First : Nat := 17

/-! ### (balise/verify.judge).rules -/
def verify_judge_rules_C : CCode :=
 (.seq
 (.seq
 (.ops [
 (sH 1 .boxh [.t 0]),
 (sP 2 .mov [.c .nils])])
 (.frz 1))
 (.seq
 (.seq
 (.ops [
 (sP 5 (.faddr 0) [.t 1]),
 (sH 6 (.load true 10) [.t 5]),
 (sH 3 (.newh [.nils, .nils, .nils, .nils, .nils, (.int .i64 0), (.int .i64 0), (.int .i64 0), (.int .i64 0), (.int .i64 0)]) []),
 (sHn (.store 10) [.t 3, .t 6])])
 (.frz 3))
 (.seq
 (.ops [
 (sP 7 (.mkfn (.func 33) 0) [.t 3]),
 (sM 4 7)])
 (.seq
 (.ops [
 (sP 8 (.faddr 0) [.t 3]),
 (sH 9 (.load false 1) [.t 8]),
 (sP 10 .len [.t 9]),
 (sC 11 37 [.t 10, .c (.int .i64 2), .c (.int .i64 40)]),
 (sC 12 36 [.t 11]),
 (sH 13 (.bslF 2 1 [(.int .i64 0), .nilf] [(0, 2)]) [.t 12]),
 (sP 14 (.faddr 0) [.t 3]),
 (sH 15 (.load false 1) [.t 14]),
 (sP 16 .len [.t 15]),
 (sM 17 4),
 (sP 18 (.bld [(.int .i64 0), .nilf] [(0, 1), (1, 1)]) [.t 16, .t 17]),
 (sH 19 (.bslF 2 1 [(.int .i64 0), .nilf] [(0, 2)]) [.t 18]),
 (sP 20 (.faddr 1) [.t 3]),
 (sH 21 (.load false 1) [.t 20]),
 (sP 22 .len [.t 21]),
 (sC 23 37 [.t 22, .c (.int .i64 1), .c (.int .i64 32)]),
 (sC 24 36 [.t 23]),
 (sH 25 (.bslF 2 1 [(.int .i64 0), .nilf] [(0, 2)]) [.t 24]),
 (sP 26 (.faddr 1) [.t 3]),
 (sH 27 (.load false 1) [.t 26]),
 (sP 28 .len [.t 27]),
 (sH 29 (.load true 11) [.t 1]),
 (sP 30 (.mkfn (.func 38) 1) [.t 29]),
 (sP 31 (.bld [(.int .i64 0), .nilf] [(0, 1), (1, 1)]) [.t 28, .t 30]),
 (sH 32 (.bslF 2 1 [(.int .i64 0), .nilf] [(0, 2)]) [.t 31]),
 (sP 33 (.faddr 5) [.t 3]),
 (sH 34 (.load false 1) [.t 33]),
 (sC 35 37 [.t 34, .c (.int .i64 1), .c (.int .i64 10000)]),
 (sC 36 36 [.t 35]),
 (sH 37 (.bslF 2 1 [(.int .i64 0), .nilf] [(0, 2)]) [.t 36]),
 (sP 38 (.faddr 1) [.t 3]),
 (sH 39 (.load false 1) [.t 38]),
 (sP 40 .len [.t 39]),
 (sP 41 (.mkfn (.func 39) 0) [.t 3]),
 (sP 42 (.bld [(.int .i64 0), .nilf] [(0, 1), (1, 1)]) [.t 40, .t 41]),
 (sH 43 (.bslF 2 1 [(.int .i64 0), .nilf] [(0, 2)]) [.t 42]),
 (sH 44 (.load true 11) [.t 1]),
 (sC 45 40 [.t 44]),
 (sC 46 36 [.t 45]),
 (sH 47 (.bslF 2 1 [(.int .i64 0), .nilf] [(0, 2)]) [.t 46]),
 (sP 48 (.faddr 0) [.t 3]),
 (sH 49 (.load false 1) [.t 48]),
 (sP 50 .len [.t 49]),
 (sP 51 (.mkfn (.func 41) 0) [.t 1]),
 (sP 52 (.bld [(.int .i64 0), .nilf] [(0, 1), (1, 1)]) [.t 50, .t 51]),
 (sH 53 (.bslF 2 1 [(.int .i64 0), .nilf] [(0, 2)]) [.t 52]),
 (sP 54 (.faddr 3) [.t 3]),
 (sH 55 (.load false 1) [.t 54]),
 (sP 56 .len [.t 55]),
 (sP 57 (.bin .leq .ifc) [.t 56, .c (.int .i64 8)]),
 (sC 58 36 [.t 57]),
 (sH 59 (.bslF 2 1 [(.int .i64 0), .nilf] [(0, 2)]) [.t 58]),
 (sP 60 (.faddr 3) [.t 3]),
 (sH 61 (.load false 1) [.t 60]),
 (sP 62 .len [.t 61]),
 (sH 63 (.load true 11) [.t 1]),
 (sP 64 (.mkfn (.func 43) 1) [.t 63]),
 (sP 65 (.bld [(.int .i64 0), .nilf] [(0, 1), (1, 1)]) [.t 62, .t 64]),
 (sH 66 (.bslF 2 1 [(.int .i64 0), .nilf] [(0, 2)]) [.t 65]),
 (sP 67 (.faddr 0) [.t 3]),
 (sH 68 (.load false 1) [.t 67]),
 (sP 69 .len [.t 68]),
 (sH 70 (.load true 11) [.t 1]),
 (sP 71 (.mkfn (.func 44) 1) [.t 70]),
 (sP 72 (.bld [(.int .i64 0), .nilf] [(0, 1), (1, 1)]) [.t 69, .t 71]),
 (sH 73 (.bslF 2 1 [(.int .i64 0), .nilf] [(0, 2)]) [.t 72]),
 (sP 74 (.faddr 0) [.t 3]),
 (sH 75 (.load false 1) [.t 74]),
 (sP 76 .len [.t 75]),
 (sH 77 (.load true 11) [.t 1]),
 (sP 78 (.mkfn (.func 45) 1) [.t 77]),
 (sP 79 (.bld [(.int .i64 0), .nilf] [(0, 1), (1, 1)]) [.t 76, .t 78]),
 (sH 80 (.bslF 2 1 [(.int .i64 0), .nilf] [(0, 2)]) [.t 79]),
 (sP 81 (.faddr 2) [.t 3]),
 (sH 82 (.load false 1) [.t 81]),
 (sP 83 .len [.t 82]),
 (sC 84 37 [.t 83, .c (.int .i64 1), .c (.int .i64 16)]),
 (sC 85 36 [.t 84]),
 (sP 86 (.faddr 2) [.t 3]),
 (sH 87 (.load false 1) [.t 86]),
 (sP 88 .len [.t 87]),
 (sH 89 (.load true 11) [.t 1]),
 (sP 90 (.mkfn (.func 46) 1) [.t 89]),
 (sP 91 (.bld [(.int .i64 0), .nilf] [(0, 1), (1, 1)]) [.t 88, .t 90]),
 (sH 92 (.bslF 2 2 [(.int .i64 0), .nilf] [(0, 2), (2, 2)]) [.t 85, .t 91]),
 (sP 93 (.faddr 1) [.t 3]),
 (sH 94 (.load false 1) [.t 93]),
 (sP 95 .len [.t 94]),
 (sH 96 (.load true 11) [.t 1]),
 (sP 97 (.mkfn (.func 47) 1) [.t 96]),
 (sP 98 (.bld [(.int .i64 0), .nilf] [(0, 1), (1, 1)]) [.t 95, .t 97]),
 (sH 99 (.bslF 2 1 [(.int .i64 0), .nilf] [(0, 2)]) [.t 98]),
 (sP 100 (.faddr 4) [.t 3]),
 (sH 101 (.load false 1) [.t 100]),
 (sP 102 .len [.t 101]),
 (sP 103 (.bin .leq .ifc) [.t 102, .c (.int .i64 16)]),
 (sC 104 36 [.t 103]),
 (sP 105 (.faddr 4) [.t 3]),
 (sH 106 (.load false 1) [.t 105]),
 (sP 107 .len [.t 106]),
 (sH 108 (.load true 11) [.t 1]),
 (sP 109 (.mkfn (.func 48) 1) [.t 108]),
 (sP 110 (.bld [(.int .i64 0), .nilf] [(0, 1), (1, 1)]) [.t 107, .t 109]),
 (sH 111 (.bslF 2 2 [(.int .i64 0), .nilf] [(0, 2), (2, 2)]) [.t 104, .t 110]),
 (sH 112 (.bslF 1 15 [.nils] [(0, 1), (1, 1), (2, 1), (3, 1), (4, 1), (5, 1), (6, 1), (7, 1), (8, 1), (9, 1), (10, 1), (11, 1), (12, 1), (13, 1), (14, 1)]) [.t 13, .t 19, .t 25, .t 32, .t 37, .t 43, .t 47, .t 53, .t 59, .t 66, .t 73, .t 80, .t 92, .t 99, .t 111]),
 (sM 2 112)])
 (.ret [2])))))
def verify_judge_rules_I : FInfo := ⟨(.fz false), 1, verify_judge_rules_C, [.tmp 2]⟩
def verify_judge_rules_A : Ann := ⟨[1, 3], [1000001, 1000003], [], [], []⟩
abbrev n_verify_judge_rules : Nat := 23

/-! ### (balise/verify.rule).broken -/
def verify_rule_broken_B0 : CCode :=
 (.seq
 (.ops [
 (sP 7 (.bin .lss .ifc) [.t 6, .t 5])])
 (.seq
 (.cond (.t 7)
 .skip
 (.exit 0))
 (.seq
 (.block 1 (some [1, 5, 6])
 (.seq
 (.ops [
 (sM 8 6),
 (sM 3 8)])
 (.seq
 (.ops [
 (sP 9 (.faddr 1) [.t 1]),
 (sH 10 (.load false 1) [.t 9]),
 (sM 11 3),
 ⟨(some 12), .call, [.t 10, .t 11], none⟩,
 (sP 13 (.un .not) [.t 12])])
 (.cond (.t 13)
 (.seq
 (.ops [
 (sM 14 3),
 (sM 2 14)])
 (.ret [2]))
 .skip))))
 (.ops [
 (sP 15 (.bin .add .ifc) [.t 6, .c (.int .i64 1)]),
 (sM 6 15)]))))
def verify_rule_broken_L0 : CCode := .bloop 0 [1, 5, 6] [] verify_rule_broken_B0
def verify_rule_broken_C : CCode :=
 (.seq
 (.ops [
 (sH 1 (.box 1) [.t 0]),
 (sP 2 .mov [.c (.int .i64 0)])])
 (.seq
 (.seq
 (.ops [
 (sP 4 (.faddr 0) [.t 1]),
 (sH 5 (.load false 1) [.t 4]),
 (sP 6 .mov [.c (.int .i64 0)])])
 verify_rule_broken_L0)
 (.seq
 (.ops [
 (sP 2 .mov [.c (.int .i64 (-1))])])
 (.ret [2]))))
def verify_rule_broken_I : FInfo := ⟨(.fz false), 1, verify_rule_broken_C, [.tmp 2]⟩
def verify_rule_broken_A : Ann := ⟨[], [], [(0, [1, 5, 6], [])], [(1, [1, 5, 6])], [1]⟩
abbrev n_verify_rule_broken : Nat := 24

/-! ### (balise/verify.judge).rules$1 -/
def verify_judge_rules_1_C : CCode :=
 (.seq
 (.ops [
 (sP 3 .mov [.c (.bool false)])])
 (.seq
 (.ops [
 (sP 4 (.faddr 0) [.t 1]),
 (sH 5 (.load false 1) [.t 4]),
 (sM 6 0),
 (sP 7 (.iaddr 1) [.t 5, .t 6]),
 (sH 8 (.load false 1) [.t 7]),
 (sC 9 34 [.t 8]),
 (sM 10 9),
 (sG (sP 11 (.faddr 0) [.t 1]) 10 true),
 (sG (sH 12 (.load false 1) [.t 11]) 10 true),
 (sG (sM 13 0) 10 true),
 (sG (sP 14 (.slc 1 false true) [.t 12, .t 13]) 10 true),
 (sG (sP 15 (.faddr 0) [.t 1]) 10 true),
 (sG (sH 16 (.load false 1) [.t 15]) 10 true),
 (sG (sM 17 0) 10 true),
 (sG (sP 18 (.iaddr 1) [.t 16, .t 17]) 10 true),
 (sG (sH 19 (.load false 1) [.t 18]) 10 true),
 (sG (sC 20 35 [.t 14, .t 19]) 10 true),
 (sG (sP 21 (.un .not) [.t 20]) 10 true),
 (sP 22 .pick [.t 10, .t 21, .c (.bool false)]),
 (sM 3 22)])
 (.ret [3])))
def verify_judge_rules_1_I : FInfo := ⟨(.fz false), 2, verify_judge_rules_1_C, [.tmp 3]⟩
def verify_judge_rules_1_A : Ann := ⟨[], [], [], [], []⟩
abbrev n_verify_judge_rules_1 : Nat := 33

/-! ### (balise/verify.judge).rules$2 -/
def verify_judge_rules_2_C : CCode :=
 (.seq
 (.ops [
 (sP 3 .mov [.c (.bool false)])])
 (.seq
 (.ops [
 (sP 4 (.faddr 1) [.t 1]),
 (sH 5 (.load false 1) [.t 4]),
 (sM 6 0),
 (sP 7 (.iaddr 3) [.t 5, .t 6]),
 (sP 8 (.faddr 0) [.t 7]),
 (sH 9 (.load false 1) [.t 8]),
 (sP 10 (.faddr 5) [.t 1]),
 (sH 11 (.load false 1) [.t 10]),
 (sP 12 (.bin .geq .ifc) [.t 9, .t 11]),
 (sM 3 12)])
 (.ret [3])))
def verify_judge_rules_2_I : FInfo := ⟨(.fz false), 2, verify_judge_rules_2_C, [.tmp 3]⟩
def verify_judge_rules_2_A : Ann := ⟨[], [], [], [], []⟩
abbrev n_verify_judge_rules_2 : Nat := 39

/-! ### (balise/verify.judge).rules$3 -/
def verify_judge_rules_3_C : CCode :=
 (.seq
 (.ops [
 (sP 3 .mov [.c (.bool false)])])
 (.seq
 (.ops [
 (sP 4 (.faddr 10) [.t 1]),
 (sH 5 (.load false 1) [.t 4]),
 (sM 6 0),
 (sC 7 42 [.t 5, .t 6]),
 (sP 8 .len [.t 7]),
 (sC 9 37 [.t 8, .c (.int .i64 1), .c (.int .i64 3)]),
 (sM 3 9)])
 (.ret [3])))
def verify_judge_rules_3_I : FInfo := ⟨(.fz false), 2, verify_judge_rules_3_C, [.tmp 3]⟩
def verify_judge_rules_3_A : Ann := ⟨[], [], [], [], []⟩
abbrev n_verify_judge_rules_3 : Nat := 41

/-! ### balise/verify.one -/
def verify_one_C : CCode :=
 (.seq
 (.seq
 (.ops [
 (sH 1 .boxh [.t 0]),
 (sH 2 (.newl 2 [(.int .i64 0), .nilf]) [])])
 (.frz 1))
 (.seq
 (.ops [
 (sP 3 (.mkfn (.func 56) 0) [.t 1]),
 (sP 4 (.bld [(.int .i64 0), .nilf] [(0, 1), (1, 1)]) [.c (.int .i64 1), .t 3]),
 (sHn (.store 2) [.t 2, .t 4])])
 (.ret [2])))
def verify_one_I : FInfo := ⟨(.fz false), 1, verify_one_C, [.cell 2 true 2]⟩
def verify_one_A : Ann := ⟨[1], [1000001], [], [], [2]⟩
abbrev n_verify_one : Nat := 36

/-! ### balise/verify.one$1 -/
def verify_one_1_C : CCode :=
 (.seq
 (.ops [
 (sP 3 .mov [.c (.bool false)])])
 (.seq
 (.ops [
 (sH 4 (.load false 1) [.t 1]),
 (sM 3 4)])
 (.ret [3])))
def verify_one_1_I : FInfo := ⟨(.fz false), 2, verify_one_1_C, [.tmp 3]⟩
def verify_one_1_A : Ann := ⟨[], [], [], [], []⟩
abbrev n_verify_one_1 : Nat := 56

/-! ### balise/verify.within[int] -/
def verify_within_int_C : CCode :=
 (.seq
 (.ops [
 (sP 6 .mov [.c (.bool false)])])
 (.seq
 (.ops [
 (sM 7 0),
 (sM 8 1),
 (sP 9 (.bin .geq .ifc) [.t 7, .t 8]),
 (sM 10 9),
 (sG (sM 11 0) 10 true),
 (sG (sM 12 2) 10 true),
 (sG (sP 13 (.bin .leq .ifc) [.t 11, .t 12]) 10 true),
 (sP 14 .pick [.t 10, .t 13, .c (.bool false)]),
 (sM 6 14)])
 (.ret [6])))
def verify_within_int_I : FInfo := ⟨(.fz false), 3, verify_within_int_C, [.tmp 6]⟩
def verify_within_int_A : Ann := ⟨[], [], [], [], []⟩
abbrev n_verify_within_int : Nat := 37

/-! ### balise/verify.within[int64] -/
def verify_within_int64_C : CCode :=
 (.seq
 (.ops [
 (sP 6 .mov [.c (.bool false)])])
 (.seq
 (.ops [
 (sM 7 0),
 (sM 8 1),
 (sP 9 (.bin .geq .ifc) [.t 7, .t 8]),
 (sM 10 9),
 (sG (sM 11 0) 10 true),
 (sG (sM 12 2) 10 true),
 (sG (sP 13 (.bin .leq .ifc) [.t 11, .t 12]) 10 true),
 (sP 14 .pick [.t 10, .t 13, .c (.bool false)]),
 (sM 6 14)])
 (.ret [6])))
def verify_within_int64_I : FInfo := ⟨(.fz false), 3, verify_within_int64_C, [.tmp 6]⟩
def verify_within_int64_A : Ann := ⟨[], [], [], [], []⟩
abbrev n_verify_within_int64 : Nat := 59

/-! ### (balise/verify.judge).section -/
def verify_judge_section_C : CCode :=
 (.seq
 (.ops [
 (sH 2 (.box 2) [.t 0]),
 (sP 4 .mov [.c (.bool false)])])
 (.seq
 (.ops [
 (sP 6 (.faddr 0) [.t 2]),
 (sP 7 (.faddr 1) [.t 6]),
 (sH 8 (.load false 1) [.t 7]),
 (sM 9 1),
 (sP 10 (.iaddr 3) [.t 8, .t 9]),
 (sH 11 (.load true 3) [.t 10]),
 (sH 5 (.newl 5 [(.int .i64 0), (.int .i64 0), (.int .i64 0)]) []),
 (sHn (.store 3) [.t 5, .t 11])])
 (.seq
 (.ops [
 (sH 12 (.load true 11) [.t 2]),
 (sP 13 (.faddr 1) [.t 5]),
 (sH 14 (.load false 1) [.t 13]),
 (sC 15 57 [.t 12, .t 14]),
 (sM 16 15),
 (sG (sH 17 (.load true 11) [.t 2]) 16 true),
 (sG (sP 18 (.faddr 2) [.t 5]) 16 true),
 (sG (sH 19 (.load false 1) [.t 18]) 16 true),
 (sG (sC 20 57 [.t 17, .t 19]) 16 true),
 (sP 21 .pick [.t 16, .t 20, .c (.bool false)]),
 (sM 22 21),
 (sG (sP 23 (.faddr 0) [.t 2]) 22 true),
 (sG (sP 24 (.faddr 0) [.t 23]) 22 true),
 (sG (sH 25 (.load false 1) [.t 24]) 22 true),
 (sG (sP 26 (.faddr 1) [.t 5]) 22 true),
 (sG (sH 27 (.load false 1) [.t 26]) 22 true),
 (sG (sP 28 (.iaddr 1) [.t 25, .t 27]) 22 true),
 (sG (sH 29 (.load false 1) [.t 28]) 22 true),
 (sG (sP 30 (.faddr 0) [.t 2]) 22 true),
 (sG (sP 31 (.faddr 0) [.t 30]) 22 true),
 (sG (sH 32 (.load false 1) [.t 31]) 22 true),
 (sG (sP 33 (.faddr 2) [.t 5]) 22 true),
 (sG (sH 34 (.load false 1) [.t 33]) 22 true),
 (sG (sP 35 (.iaddr 1) [.t 32, .t 34]) 22 true),
 (sG (sH 36 (.load false 1) [.t 35]) 22 true),
 (sG (sP 37 (.faddr 0) [.t 5]) 22 true),
 (sG (sH 38 (.load false 1) [.t 37]) 22 true),
 (sG (sC 39 58 [.t 29, .t 36, .t 38]) 22 true),
 (sP 40 .pick [.t 22, .t 39, .c (.bool false)]),
 (sM 4 40)])
 (.ret [4]))))
def verify_judge_section_I : FInfo := ⟨(.fz false), 2, verify_judge_section_C, [.tmp 4]⟩
def verify_judge_section_A : Ann := ⟨[], [], [], [], [2, 5]⟩
abbrev n_verify_judge_section : Nat := 38

/-! ### (balise/verify.judge).times -/
def verify_judge_times_B0 : CCode :=
 (.seq
 (.ops [
 (sP 17 (.bin .lss .ifc) [.t 16, .t 15])])
 (.seq
 (.cond (.t 17)
 .skip
 (.exit 0))
 (.seq
 (.block 1 (some [1, 14, 15, 16])
 (.seq
 (.ops [
 (sP 18 (.iaddr 1) [.t 14, .t 16]),
 (sH 19 (.load false 1) [.t 18]),
 (sM 4 19)])
 (.seq
 (.ops [
 (sM 20 4),
 (sC 21 59 [.t 20, .c (.int .i64 1), .c (.int .i64 1000)]),
 (sP 22 (.un .not) [.t 21])])
 (.cond (.t 22)
 (.seq
 (.ops [
 (sP 2 .mov [.c (.bool false)])])
 (.ret [2]))
 .skip))))
 (.ops [
 (sP 23 (.bin .add .ifc) [.t 16, .c (.int .i64 1)]),
 (sM 16 23)]))))
def verify_judge_times_L0 : CCode := .bloop 0 [1, 14, 15, 16] [1] verify_judge_times_B0
def verify_judge_times_C : CCode :=
 (.seq
 (.ops [
 (sH 1 (.box 1) [.t 0]),
 (sP 2 .mov [.c (.bool false)])])
 (.seq
 (.seq
 (.ops [
 (sP 5 (.faddr 0) [.t 1]),
 (sP 6 (.faddr 6) [.t 5]),
 (sH 7 (.load false 1) [.t 6]),
 (sP 8 (.faddr 0) [.t 1]),
 (sP 9 (.faddr 7) [.t 8]),
 (sH 10 (.load false 1) [.t 9]),
 (sP 11 (.faddr 0) [.t 1]),
 (sP 12 (.faddr 8) [.t 11]),
 (sH 13 (.load false 1) [.t 12]),
 (sH 14 (.bslF 1 3 [(.int .i64 0)] [(0, 1), (1, 1), (2, 1)]) [.t 7, .t 10, .t 13]),
 (sP 15 .len [.t 14]),
 (sP 16 .mov [.c (.int .i64 0)])])
 verify_judge_times_L0)
 (.seq
 (.ops [
 (sP 24 (.faddr 0) [.t 1]),
 (sP 25 (.faddr 9) [.t 24]),
 (sH 26 (.load false 1) [.t 25]),
 (sC 27 59 [.t 26, .c (.int .i64 0), .c (.int .i64 1000)]),
 (sM 2 27)])
 (.ret [2]))))
def verify_judge_times_I : FInfo := ⟨(.fz false), 1, verify_judge_times_C, [.tmp 2]⟩
def verify_judge_times_A : Ann := ⟨[], [], [(0, [1, 14, 15, 16], [1])], [(1, [1, 14, 15, 16])], [1]⟩
abbrev n_verify_judge_times : Nat := 40

/-! ### (balise/verify.judge).point -/
def verify_judge_point_C : CCode :=
 (.seq
 (.ops [
 (sH 2 (.box 2) [.t 0]),
 (sP 4 .mov [.c (.bool false)])])
 (.seq
 (.ops [
 (sP 9 (.faddr 0) [.t 2]),
 (sP 10 (.faddr 3) [.t 9]),
 (sH 11 (.load false 1) [.t 10]),
 (sM 12 1),
 (sP 13 (.iaddr 4) [.t 11, .t 12]),
 (sH 14 (.load true 4) [.t 13]),
 (sH 5 (.newl 5 [(.int .i64 0), (.int .i64 0), (.int .i64 0), (.int .i64 0)]) []),
 (sHn (.store 4) [.t 5, .t 14])])
 (.seq
 (.ops [
 (sP 15 (.faddr 10) [.t 2]),
 (sH 16 (.load false 1) [.t 15]),
 (sP 17 (.faddr 0) [.t 5]),
 (sH 18 (.load false 1) [.t 17]),
 (sC 19 42 [.t 16, .t 18]),
 (sM 6 19)])
 (.seq
 (.seq
 (.ops [
 (sH 20 (.load true 11) [.t 2]),
 (sP 21 (.faddr 0) [.t 5]),
 (sH 22 (.load false 1) [.t 21]),
 (sC 23 57 [.t 20, .t 22]),
 (sP 24 (.un .not) [.t 23]),
 (sM 25 24),
 (sG (sM 26 6) 25 false),
 (sG (sP 27 .len [.t 26]) 25 false),
 (sG (sP 28 (.bin .neq .int) [.t 27, .c (.int .i64 3)]) 25 false),
 (sP 29 .pick [.t 25, .c (.bool true), .t 28])])
 (.cond (.t 29)
 (.seq
 (.ops [
 (sP 4 .mov [.c (.bool false)])])
 (.ret [4]))
 .skip))
 (.seq
 (.ops [
 (sM 30 6),
 (sP 31 (.iaddr 2) [.t 30, .c (.int .i64 0)]),
 (sP 32 (.faddr 0) [.t 31]),
 (sH 33 (.load false 1) [.t 32]),
 (sM 34 6),
 (sP 35 (.iaddr 2) [.t 34, .c (.int .i64 1)]),
 (sP 36 (.faddr 0) [.t 35]),
 (sH 37 (.load false 1) [.t 36]),
 (sM 38 6),
 (sP 39 (.iaddr 2) [.t 38, .c (.int .i64 2)]),
 (sP 40 (.faddr 0) [.t 39]),
 (sH 41 (.load false 1) [.t 40]),
 (sH 42 (.bslF 1 3 [(.int .i64 0)] [(0, 1), (1, 1), (2, 1)]) [.t 33, .t 37, .t 41]),
 (sM 7 42)])
 (.seq
 (.ops [
 (sP 43 (.faddr 1) [.t 5]),
 (sH 44 (.load false 1) [.t 43]),
 (sP 45 (.faddr 2) [.t 5]),
 (sH 46 (.load false 1) [.t 45]),
 (sP 47 (.faddr 3) [.t 5]),
 (sH 48 (.load false 1) [.t 47]),
 (sH 49 (.bslO 1 3 [(.int .i64 0)] [(0, 1), (1, 1), (2, 1)]) [.t 44, .t 46, .t 48]),
 (sM 8 49)])
 (.seq
 (.ops [
 (sM 50 8),
 (sC 51 61 [.t 50])])
 (.seq
 (.ops [
 (sM 52 7),
 (sM 53 8),
 (sC 54 62 [.t 52, .t 53]),
 (sM 55 54),
 (sG (sM 56 8) 55 true),
 (sG (sC 57 63 [.t 56]) 55 true),
 (sG (sP 58 .len [.t 57]) 55 true),
 (sG (sP 59 (.bin .eql .int) [.t 58, .c (.int .i64 3)]) 55 true),
 (sP 60 .pick [.t 55, .t 59, .c (.bool false)]),
 (sM 4 60)])
 (.ret [4])))))))))
def verify_judge_point_I : FInfo := ⟨(.fz false), 2, verify_judge_point_C, [.tmp 4]⟩
def verify_judge_point_A : Ann := ⟨[], [49], [], [], [2, 5]⟩
abbrev n_verify_judge_point : Nat := 43

/-! ### (balise/verify.judge).points -/
def verify_judge_points_B0 : CCode :=
 (.seq
 (.ops [
 (sP 13 (.bin .lss .ifc) [.t 12, .t 11])])
 (.seq
 (.cond (.t 13)
 .skip
 (.exit 0))
 (.seq
 (.block 1 (some [1, 2, 5, 10, 11, 12])
 (.seq
 (.ops [
 (sP 14 (.iaddr 4) [.t 10, .t 12]),
 (sH 15 (.load true 4) [.t 14]),
 (sH 7 (.newl 7 [(.int .i64 0), (.int .i64 0), (.int .i64 0), (.int .i64 0)]) []),
 (sHn (.store 4) [.t 7, .t 15])])
 (.seq
 (.ops [
 (sP 16 (.faddr 0) [.t 7]),
 (sH 17 (.load false 1) [.t 16]),
 (sM 18 1),
 (sP 19 (.bin .eql .int) [.t 17, .t 18])])
 (.cond (.t 19)
 (.ops [
 (sM 20 5),
 (sP 21 (.bin .add .ifc) [.t 20, .c (.int .i64 1)]),
 (sM 5 21)])
 .skip))))
 (.ops [
 (sP 22 (.bin .add .ifc) [.t 12, .c (.int .i64 1)]),
 (sM 12 22)]))))
def verify_judge_points_L0 : CCode := .bloop 0 [1, 2, 5, 10, 11, 12] [1, 2, 5] verify_judge_points_B0
def verify_judge_points_C : CCode :=
 (.seq
 (.ops [
 (sH 2 (.box 2) [.t 0]),
 (sP 4 .mov [.c (.bool false)])])
 (.seq
 (.ops [
 (sP 5 .mov [.c (.int .i64 0)])])
 (.seq
 (.seq
 (.ops [
 (sP 8 (.faddr 0) [.t 2]),
 (sP 9 (.faddr 3) [.t 8]),
 (sH 10 (.load false 1) [.t 9]),
 (sP 11 .len [.t 10]),
 (sP 12 .mov [.c (.int .i64 0)])])
 verify_judge_points_L0)
 (.seq
 (.seq
 (.ops [
 (sP 23 (.faddr 10) [.t 2]),
 (sH 24 (.load false 1) [.t 23]),
 (sM 25 1),
 (sC 26 42 [.t 24, .t 25]),
 (sP 27 .len [.t 26]),
 (sP 28 (.bin .eql .int) [.t 27, .c (.int .i64 3)])])
 (.cond (.t 28)
 (.seq
 (.ops [
 (sM 29 5),
 (sP 30 (.bin .eql .int) [.t 29, .c (.int .i64 1)]),
 (sM 4 30)])
 (.ret [4]))
 .skip))
 (.seq
 (.ops [
 (sM 31 5),
 (sP 32 (.bin .eql .int) [.t 31, .c (.int .i64 0)]),
 (sM 4 32)])
 (.ret [4]))))))
def verify_judge_points_I : FInfo := ⟨(.fz false), 2, verify_judge_points_C, [.tmp 4]⟩
def verify_judge_points_A : Ann := ⟨[], [], [(0, [1, 2, 5, 10, 11, 12], [1, 2, 5])], [(1, [1, 2, 5, 10, 11, 12])], [2, 7]⟩
abbrev n_verify_judge_points : Nat := 44

/-! ### (balise/verify.judge).goes -/
def verify_judge_goes_C : CCode :=
 (.seq
 (.ops [
 (sH 2 (.box 2) [.t 0]),
 (sP 4 .mov [.c (.bool false)])])
 (.seq
 (.seq
 (.ops [
 (sP 8 (.faddr 10) [.t 2]),
 (sH 9 (.load false 1) [.t 8]),
 (sM 10 1),
 (sC 11 64 [.t 9, .t 10]),
 (sM 5 11)])
 (.seq
 (.ops [
 (sM 12 5),
 (sP 13 (.bin .geq .ifc) [.t 12, .c (.int .i64 0)])])
 (.cond (.t 13)
 (.seq
 (.ops [
 (sP 14 (.faddr 0) [.t 2]),
 (sP 15 (.faddr 3) [.t 14]),
 (sH 16 (.load false 1) [.t 15]),
 (sM 17 5),
 (sP 18 (.iaddr 4) [.t 16, .t 17]),
 (sH 19 (.load true 4) [.t 18]),
 (sH 6 (.newl 6 [(.int .i64 0), (.int .i64 0), (.int .i64 0), (.int .i64 0)]) []),
 (sHn (.store 4) [.t 6, .t 19])])
 (.seq
 (.ops [
 (sH 20 (.load true 11) [.t 2]),
 (sP 21 (.faddr 1) [.t 6]),
 (sH 22 (.load false 1) [.t 21]),
 (sP 23 (.faddr 2) [.t 6]),
 (sH 24 (.load false 1) [.t 23]),
 (sM 25 1),
 (sC 26 65 [.t 20, .t 22, .t 24, .t 25]),
 (sM 27 26),
 (sG (sH 28 (.load true 11) [.t 2]) 27 true),
 (sG (sP 29 (.faddr 1) [.t 6]) 27 true),
 (sG (sH 30 (.load false 1) [.t 29]) 27 true),
 (sG (sP 31 (.faddr 3) [.t 6]) 27 true),
 (sG (sH 32 (.load false 1) [.t 31]) 27 true),
 (sG (sM 33 1) 27 true),
 (sG (sC 34 65 [.t 28, .t 30, .t 32, .t 33]) 27 true),
 (sP 35 .pick [.t 27, .t 34, .c (.bool false)]),
 (sM 4 35)])
 (.ret [4])))
 .skip)))
 (.seq
 (.ops [
 (sP 36 (.faddr 10) [.t 2]),
 (sH 37 (.load false 1) [.t 36]),
 (sM 38 1),
 (sC 39 42 [.t 37, .t 38]),
 (sM 7 39)])
 (.seq
 (.ops [
 (sM 40 7),
 (sP 41 .len [.t 40]),
 (sP 42 (.bin .lss .ifc) [.t 41, .c (.int .i64 2)]),
 (sM 43 42),
 (sG (sH 44 (.load true 11) [.t 2]) 43 false),
 (sG (sM 45 7) 43 false),
 (sG (sP 46 (.iaddr 2) [.t 45, .c (.int .i64 0)]) 43 false),
 (sG (sP 47 (.faddr 0) [.t 46]) 43 false),
 (sG (sH 48 (.load false 1) [.t 47]) 43 false),
 (sG (sM 49 7) 43 false),
 (sG (sP 50 (.iaddr 2) [.t 49, .c (.int .i64 1)]) 43 false),
 (sG (sP 51 (.faddr 0) [.t 50]) 43 false),
 (sG (sH 52 (.load false 1) [.t 51]) 43 false),
 (sG (sM 53 1) 43 false),
 (sG (sC 54 65 [.t 44, .t 48, .t 52, .t 53]) 43 false),
 (sP 55 .pick [.t 43, .c (.bool true), .t 54]),
 (sM 4 55)])
 (.ret [4])))))
def verify_judge_goes_I : FInfo := ⟨(.fz false), 2, verify_judge_goes_C, [.tmp 4]⟩
def verify_judge_goes_A : Ann := ⟨[], [], [], [], [2, 6]⟩
abbrev n_verify_judge_goes : Nat := 45

/-! ### (balise/verify.judge).part -/
def verify_judge_part_C : CCode :=
 (.seq
 (.seq
 (.ops [
 (sH 2 .boxh [.t 0]),
 (sP 4 .mov [.c (.bool false)])])
 (.frz 2))
 (.seq
 (.ops [
 (sP 6 (.faddr 0) [.t 2]),
 (sP 7 (.faddr 2) [.t 6]),
 (sH 8 (.load false 1) [.t 7]),
 (sM 9 1),
 (sP 10 (.iaddr 1) [.t 8, .t 9]),
 (sH 11 (.load false 1) [.t 10]),
 (sM 5 11)])
 (.seq
 (.ops [
 (sM 12 5),
 (sP 13 .len [.t 12]),
 (sP 14 (.bin .gtr .ifc) [.t 13, .c (.int .i64 0)]),
 (sM 15 14),
 (sG (sM 16 5) 15 true),
 (sG (sP 17 (.mkfn (.func 67) 0) [.t 2]) 15 true),
 (sG (sC 18 66 [.t 16, .t 17]) 15 true),
 (sG (sP 19 (.un .not) [.t 18]) 15 true),
 (sP 20 .pick [.t 15, .t 19, .c (.bool false)]),
 (sM 4 20)])
 (.ret [4]))))
def verify_judge_part_I : FInfo := ⟨(.fz false), 2, verify_judge_part_C, [.tmp 4]⟩
def verify_judge_part_A : Ann := ⟨[2], [1000002], [], [], []⟩
abbrev n_verify_judge_part : Nat := 46

/-! ### (balise/verify.judge).part$1 -/
def verify_judge_part_1_C : CCode :=
 (.seq
 (.ops [
 (sP 3 .mov [.c (.bool false)])])
 (.seq
 (.ops [
 (sM 4 0),
 (sP 5 (.faddr 0) [.t 1]),
 (sP 6 (.faddr 1) [.t 5]),
 (sH 7 (.load false 1) [.t 6]),
 (sP 8 .len [.t 7]),
 (sP 9 (.bin .sub .ifc) [.t 8, .c (.int .i64 1)]),
 (sC 10 37 [.t 4, .c (.int .i64 0), .t 9]),
 (sP 11 (.un .not) [.t 10]),
 (sM 3 11)])
 (.ret [3])))
def verify_judge_part_1_I : FInfo := ⟨(.fz false), 2, verify_judge_part_1_C, [.tmp 3]⟩
def verify_judge_part_1_A : Ann := ⟨[], [], [], [], []⟩
abbrev n_verify_judge_part_1 : Nat := 67

/-! ### (balise/verify.judge).once -/
def verify_judge_once_B2 : CCode :=
 (.seq
 (.ops [
 (sP 21 (.bin .lss .ifc) [.t 20, .t 19])])
 (.seq
 (.cond (.t 21)
 .skip
 (.exit 2))
 (.seq
 (.block 3 (some [1, 5, 12, 13, 14, 18, 19, 20])
 (.seq
 (.ops [
 (sP 22 (.iaddr 1) [.t 18, .t 20]),
 (sH 23 (.load false 1) [.t 22]),
 (sM 9 23)])
 (.seq
 (.ops [
 (sM 24 9),
 (sM 25 1),
 (sP 26 (.bin .eql .int) [.t 24, .t 25])])
 (.cond (.t 26)
 (.ops [
 (sM 27 5),
 (sP 28 (.bin .add .ifc) [.t 27, .c (.int .i64 1)]),
 (sM 5 28)])
 .skip))))
 (.ops [
 (sP 29 (.bin .add .ifc) [.t 20, .c (.int .i64 1)]),
 (sM 20 29)]))))
def verify_judge_once_L2 : CCode := .bloop 2 [1, 5, 12, 13, 14, 18, 19, 20] [1, 5, 12, 13, 14] verify_judge_once_B2

def verify_judge_once_B0 : CCode :=
 (.seq
 (.ops [
 (sP 15 (.bin .lss .ifc) [.t 14, .t 13])])
 (.seq
 (.cond (.t 15)
 .skip
 (.exit 0))
 (.seq
 (.block 1 (some [1, 5, 12, 13, 14])
 (.seq
 (.ops [
 (sP 16 (.iaddr 1) [.t 12, .t 14]),
 (sH 17 (.load false 1) [.t 16]),
 (sM 7 17)])
 (.seq
 (.ops [
 (sM 18 7),
 (sP 19 .len [.t 18]),
 (sP 20 .mov [.c (.int .i64 0)])])
 verify_judge_once_L2)))
 (.ops [
 (sP 30 (.bin .add .ifc) [.t 14, .c (.int .i64 1)]),
 (sM 14 30)]))))
def verify_judge_once_L0 : CCode := .bloop 0 [1, 5, 12, 13, 14] [5] verify_judge_once_B0
def verify_judge_once_C : CCode :=
 (.seq
 (.ops [
 (sH 2 (.box 2) [.t 0]),
 (sP 4 .mov [.c (.bool false)])])
 (.seq
 (.ops [
 (sP 5 .mov [.c (.int .i64 0)])])
 (.seq
 (.seq
 (.ops [
 (sP 10 (.faddr 0) [.t 2]),
 (sP 11 (.faddr 2) [.t 10]),
 (sH 12 (.load false 1) [.t 11]),
 (sP 13 .len [.t 12]),
 (sP 14 .mov [.c (.int .i64 0)])])
 verify_judge_once_L0)
 (.seq
 (.ops [
 (sM 31 5),
 (sP 32 (.bin .eql .int) [.t 31, .c (.int .i64 1)]),
 (sM 4 32)])
 (.ret [4])))))
def verify_judge_once_I : FInfo := ⟨(.fz false), 2, verify_judge_once_C, [.tmp 4]⟩
def verify_judge_once_A : Ann := ⟨[], [], [(0, [1, 5, 12, 13, 14], [5]), (2, [1, 5, 12, 13, 14, 18, 19, 20], [1, 5, 12, 13, 14])], [(1, [1, 5, 12, 13, 14]), (3, [1, 5, 12, 13, 14, 18, 19, 20])], [2]⟩
abbrev n_verify_judge_once : Nat := 47

/-! ### (balise/verify.judge).route -/
def verify_judge_route_C : CCode :=
 (.seq
 (.ops [
 (sH 2 (.box 2) [.t 0]),
 (sP 4 .mov [.c (.bool false)])])
 (.seq
 (.ops [
 (sP 8 (.faddr 0) [.t 2]),
 (sP 9 (.faddr 4) [.t 8]),
 (sH 10 (.load false 1) [.t 9]),
 (sM 11 1),
 (sP 12 (.iaddr 1) [.t 10, .t 11]),
 (sH 13 (.load false 1) [.t 12]),
 (sM 5 13)])
 (.seq
 (.ops [
 (sP 15 (.faddr 10) [.t 2]),
 (sH 16 (.load false 1) [.t 15]),
 (sM 17 5),
 (sC 18 68 [.t 16, .t 17]),
 (sM 14 18),
 (sP 19 (.ext 0) [.t 14]),
 (sP 20 (.ext 1) [.t 14]),
 (sM 6 19),
 (sM 7 20)])
 (.seq
 (.ops [
 (sM 21 7),
 (sM 22 21),
 (sG (sM 23 5) 22 true),
 (sG (sP 24 .len [.t 23]) 22 true),
 (sG (sP 25 (.bin .leq .ifc) [.t 24, .c (.int .i64 12)]) 22 true),
 (sP 26 .pick [.t 22, .t 25, .c (.bool false)]),
 (sM 4 26)])
 (.ret [4])))))
def verify_judge_route_I : FInfo := ⟨(.fz false), 2, verify_judge_route_C, [.tmp 4]⟩
def verify_judge_route_A : Ann := ⟨[], [], [], [], [2]⟩
abbrev n_verify_judge_route : Nat := 48

/-! ### (balise/verify.judge).node -/
def verify_judge_node_C : CCode :=
 (.seq
 (.ops [
 (sH 2 (.box 2) [.t 0]),
 (sP 4 .mov [.c (.bool false)])])
 (.seq
 (.ops [
 (sM 5 1),
 (sP 6 (.faddr 0) [.t 2]),
 (sP 7 (.faddr 0) [.t 6]),
 (sH 8 (.load false 1) [.t 7]),
 (sP 9 .len [.t 8]),
 (sP 10 (.bin .sub .ifc) [.t 9, .c (.int .i64 1)]),
 (sC 11 37 [.t 5, .c (.int .i64 0), .t 10]),
 (sM 4 11)])
 (.ret [4])))
def verify_judge_node_I : FInfo := ⟨(.fz false), 2, verify_judge_node_C, [.tmp 4]⟩
def verify_judge_node_A : Ann := ⟨[], [], [], [], [2]⟩
abbrev n_verify_judge_node : Nat := 57

/-! ### (balise/verify.judge).on -/
def verify_judge_on_C : CCode :=
 (.seq
 (.ops [
 (sH 4 (.box 4) [.t 0]),
 (sP 8 .mov [.c (.bool false)])])
 (.seq
 (.ops [
 (sH 9 (.load true 11) [.t 4]),
 (sM 10 1),
 (sM 11 3),
 (sC 12 80 [.t 9, .t 10, .t 11]),
 (sP 13 (.faddr 0) [.t 4]),
 (sP 14 (.faddr 0) [.t 13]),
 (sH 15 (.load false 1) [.t 14]),
 (sM 16 3),
 (sP 17 (.iaddr 1) [.t 15, .t 16]),
 (sH 18 (.load false 1) [.t 17]),
 (sH 19 (.load true 11) [.t 4]),
 (sM 20 2),
 (sM 21 3),
 (sC 22 80 [.t 19, .t 20, .t 21]),
 (sC 23 79 [.t 12, .t 18, .t 22]),
 (sM 8 23)])
 (.ret [8])))
def verify_judge_on_I : FInfo := ⟨(.fz false), 4, verify_judge_on_C, [.tmp 8]⟩
def verify_judge_on_A : Ann := ⟨[], [], [], [], [4]⟩
abbrev n_verify_judge_on : Nat := 65

/-! ### (balise/verify.judge).other -/
def verify_judge_other_C : CCode :=
 (.seq
 (.ops [
 (sH 3 (.box 3) [.t 0]),
 (sP 6 .mov [.c (.cplx .f64 0 0)])])
 (.seq
 (.ops [
 (sP 8 (.faddr 0) [.t 3]),
 (sP 9 (.faddr 1) [.t 8]),
 (sH 10 (.load false 1) [.t 9]),
 (sM 11 1),
 (sP 12 (.iaddr 3) [.t 10, .t 11]),
 (sH 13 (.load true 3) [.t 12]),
 (sH 7 (.newl 7 [(.int .i64 0), (.int .i64 0), (.int .i64 0)]) []),
 (sHn (.store 3) [.t 7, .t 13])])
 (.seq
 (.seq
 (.ops [
 (sP 14 (.faddr 1) [.t 7]),
 (sH 15 (.load false 1) [.t 14]),
 (sM 16 2),
 (sP 17 (.bin .eql .int) [.t 15, .t 16])])
 (.cond (.t 17)
 (.seq
 (.ops [
 (sP 18 (.faddr 0) [.t 3]),
 (sP 19 (.faddr 0) [.t 18]),
 (sH 20 (.load false 1) [.t 19]),
 (sP 21 (.faddr 2) [.t 7]),
 (sH 22 (.load false 1) [.t 21]),
 (sP 23 (.iaddr 1) [.t 20, .t 22]),
 (sH 24 (.load false 1) [.t 23]),
 (sM 6 24)])
 (.ret [6]))
 .skip))
 (.seq
 (.ops [
 (sP 25 (.faddr 0) [.t 3]),
 (sP 26 (.faddr 0) [.t 25]),
 (sH 27 (.load false 1) [.t 26]),
 (sP 28 (.faddr 1) [.t 7]),
 (sH 29 (.load false 1) [.t 28]),
 (sP 30 (.iaddr 1) [.t 27, .t 29]),
 (sH 31 (.load false 1) [.t 30]),
 (sM 6 31)])
 (.ret [6])))))
def verify_judge_other_I : FInfo := ⟨(.fz false), 3, verify_judge_other_C, [.tmp 6]⟩
def verify_judge_other_A : Ann := ⟨[], [], [], [], [3, 7]⟩
abbrev n_verify_judge_other : Nat := 80

/-! ### balise/plane.Place -/
def plane_Place_C : CCode :=
 (.seq
 (.ops [
 (sP 2 .mov [.c (.bool false)])])
 (.seq
 (.ops [
 (sM 3 0),
 (sP 4 .re [.t 3]),
 (sC 5 54 [.t 4]),
 (sM 6 5),
 (sG (sM 7 0) 6 true),
 (sG (sP 8 .im [.t 7]) 6 true),
 (sG (sC 9 54 [.t 8]) 6 true),
 (sP 10 .pick [.t 6, .t 9, .c (.bool false)]),
 (sM 2 10)])
 (.ret [2])))
def plane_Place_I : FInfo := ⟨(.fz false), 1, plane_Place_C, [.tmp 2]⟩
def plane_Place_A : Ann := ⟨[], [], [], [], []⟩
abbrev n_plane_Place : Nat := 34

/-! ### balise/plane.whole -/
def plane_whole_C : CCode :=
 (.seq
 (.ops [
 (sP 2 .mov [.c (.bool false)])])
 (.seq
 (.ops [
 (sM 3 0),
 (sM 4 0),
 (sC 5 72 [.t 4]),
 (sP 6 (.bin .eql .ifc) [.t 3, .t 5]),
 (sM 7 6),
 (sG (sM 8 0) 7 true),
 (sG (sC 9 73 [.t 8]) 7 true),
 (sG (sP 10 (.bin .leq .ifc) [.t 9, .c (.float .f64 4696837146684686336)]) 7 true),
 (sP 11 .pick [.t 7, .t 10, .c (.bool false)]),
 (sM 2 11)])
 (.ret [2])))
def plane_whole_I : FInfo := ⟨(.fz false), 1, plane_whole_C, [.tmp 2]⟩
def plane_whole_A : Ann := ⟨[], [], [], [], []⟩
abbrev n_plane_whole : Nat := 54

/-! ### balise/plane.Fits -/
def plane_Fits_C : CCode :=
 (.seq
 (.ops [
 (sP 6 .mov [.c (.bool false)])])
 (.seq
 (.seq
 (.ops [
 (sM 7 0),
 (sM 8 1),
 (sP 9 (.bin .eql .ifc) [.t 7, .t 8]),
 (sM 10 9),
 (sG (sM 11 2) 10 false),
 (sG (sP 12 (.bin .lss .ifc) [.t 11, .c (.int .i64 1)]) 10 false),
 (sP 13 .pick [.t 10, .c (.bool true), .t 12]),
 (sM 14 13),
 (sG (sM 15 2) 14 false),
 (sG (sP 16 (.bin .gtr .ifc) [.t 15, .c (.int .i64 10000)]) 14 false),
 (sP 17 .pick [.t 14, .c (.bool true), .t 16])])
 (.cond (.t 17)
 (.seq
 (.ops [
 (sP 6 .mov [.c (.bool false)])])
 (.ret [6]))
 .skip))
 (.seq
 (.ops [
 (sM 18 2),
 (sP 19 (.toFloat .f64) [.t 18]),
 (sP 20 .cplx [.t 19, .c (.float .f64 0)]),
 (sC 21 74 [.t 20]),
 (sM 22 1),
 (sM 23 0),
 (sP 24 (.bin .sub .ifc) [.t 22, .t 23]),
 (sC 25 74 [.t 24]),
 (sP 26 (.bin .geq .ifc) [.t 21, .t 25]),
 (sM 6 26)])
 (.ret [6]))))
def plane_Fits_I : FInfo := ⟨(.fz false), 3, plane_Fits_C, [.tmp 6]⟩
def plane_Fits_A : Ann := ⟨[], [], [], [], []⟩
abbrev n_plane_Fits : Nat := 58

/-! ### balise/plane.Square -/
def plane_Square_C : CCode :=
 (.seq
 (.ops [
 (sP 2 .mov [.c (.float .f64 0)])])
 (.seq
 (.ops [
 (sM 3 0),
 (sM 4 0),
 (sC 5 88 [.t 3, .t 4]),
 (sM 2 5)])
 (.ret [2])))
def plane_Square_I : FInfo := ⟨(.fz false), 1, plane_Square_C, [.tmp 2]⟩
def plane_Square_A : Ann := ⟨[], [], [], [], []⟩
abbrev n_plane_Square : Nat := 74

/-! ### balise/plane.Ahead -/
def plane_Ahead_C : CCode :=
 (.seq
 (.ops [
 (sP 6 .mov [.c (.bool false)])])
 (.seq
 (.ops [
 (sM 7 1),
 (sM 8 0),
 (sP 9 (.bin .sub .ifc) [.t 7, .t 8]),
 (sM 10 2),
 (sM 11 1),
 (sP 12 (.bin .sub .ifc) [.t 10, .t 11]),
 (sC 13 88 [.t 9, .t 12]),
 (sP 14 (.bin .gtr .ifc) [.t 13, .c (.float .f64 0)]),
 (sM 6 14)])
 (.ret [6])))
def plane_Ahead_I : FInfo := ⟨(.fz false), 3, plane_Ahead_C, [.tmp 6]⟩
def plane_Ahead_A : Ann := ⟨[], [], [], [], []⟩
abbrev n_plane_Ahead : Nat := 79

/-! ### balise/plane.Dot -/
def plane_Dot_C : CCode :=
 (.seq
 (.ops [
 (sP 4 .mov [.c (.float .f64 0)])])
 (.seq
 (.ops [
 (sM 5 0),
 (sM 6 1),
 (sC 7 106 [.t 5, .t 6]),
 (sP 8 .re [.t 7]),
 (sP 9 (.bin .add .ifc) [.t 8, .c (.float .f64 0)]),
 (sM 4 9)])
 (.ret [4])))
def plane_Dot_I : FInfo := ⟨(.fz false), 2, plane_Dot_C, [.tmp 4]⟩
def plane_Dot_A : Ann := ⟨[], [], [], [], []⟩
abbrev n_plane_Dot : Nat := 88

/-! ### balise/plane.turned -/
def plane_turned_C : CCode :=
 (.seq
 (.ops [
 (sP 4 .mov [.c (.cplx .f64 0 0)])])
 (.seq
 (.ops [
 (sM 5 0),
 (sP 6 .re [.t 5]),
 (sM 7 0),
 (sP 8 .im [.t 7]),
 (sP 9 (.un .neg) [.t 8]),
 (sP 10 .cplx [.t 6, .t 9]),
 (sM 11 1),
 (sP 12 (.bin .mul .ifc) [.t 10, .t 11]),
 (sM 4 12)])
 (.ret [4])))
def plane_turned_I : FInfo := ⟨(.fz false), 2, plane_turned_C, [.tmp 4]⟩
def plane_turned_A : Ann := ⟨[], [], [], [], []⟩
abbrev n_plane_turned : Nat := 106

/-! ### slices.Contains[[]complex128,complex128] -/
def slices_Contains_complex128_C : CCode :=
 (.seq
 (.ops [
 (sP 4 .mov [.c (.bool false)])])
 (.seq
 (.ops [
 (sM 5 0),
 (sM 6 1),
 (sC 7 55 [.t 5, .t 6]),
 (sP 8 (.bin .geq .ifc) [.t 7, .c (.int .i64 0)]),
 (sM 4 8)])
 (.ret [4])))
def slices_Contains_complex128_I : FInfo := ⟨(.fz false), 2, slices_Contains_complex128_C, [.tmp 4]⟩
def slices_Contains_complex128_A : Ann := ⟨[], [], [], [], []⟩
abbrev n_slices_Contains_complex128 : Nat := 35

/-! ### slices.Index[[]complex128,complex128] -/
def slices_Index_complex128_B0 : CCode :=
 (.seq
 (.ops [
 (sP 9 (.bin .lss .ifc) [.t 8, .t 7])])
 (.seq
 (.cond (.t 9)
 .skip
 (.exit 0))
 (.seq
 (.block 1 (some [0, 1, 7, 8])
 (.seq
 (.ops [
 (sM 10 8),
 (sM 5 10)])
 (.seq
 (.ops [
 (sM 11 1),
 (sM 12 0),
 (sM 13 5),
 (sP 14 (.iaddr 1) [.t 12, .t 13]),
 (sH 15 (.load false 1) [.t 14]),
 (sP 16 (.bin .eql .ifc) [.t 11, .t 15])])
 (.cond (.t 16)
 (.seq
 (.ops [
 (sM 17 5),
 (sM 4 17)])
 (.ret [4]))
 .skip))))
 (.ops [
 (sP 18 (.bin .add .ifc) [.t 8, .c (.int .i64 1)]),
 (sM 8 18)]))))
def slices_Index_complex128_L0 : CCode := .bloop 0 [0, 1, 7, 8] [] slices_Index_complex128_B0
def slices_Index_complex128_C : CCode :=
 (.seq
 (.ops [
 (sP 4 .mov [.c (.int .i64 0)])])
 (.seq
 (.seq
 (.ops [
 (sM 6 0),
 (sP 7 .len [.t 6]),
 (sP 8 .mov [.c (.int .i64 0)])])
 slices_Index_complex128_L0)
 (.seq
 (.ops [
 (sP 4 .mov [.c (.int .i64 (-1))])])
 (.ret [4]))))
def slices_Index_complex128_I : FInfo := ⟨(.fz false), 2, slices_Index_complex128_C, [.tmp 4]⟩
def slices_Index_complex128_A : Ann := ⟨[], [], [(0, [0, 1, 7, 8], [])], [(1, [0, 1, 7, 8])], []⟩
abbrev n_slices_Index_complex128 : Nat := 55

/-! ### slices.ContainsFunc[[]int,int] -/
def slices_ContainsFunc_int_C : CCode :=
 (.seq
 (.ops [
 (sP 4 .mov [.c (.bool false)])])
 (.seq
 (.ops [
 (sM 5 0),
 (sM 6 1),
 (sC 7 81 [.t 5, .t 6]),
 (sP 8 (.bin .geq .ifc) [.t 7, .c (.int .i64 0)]),
 (sM 4 8)])
 (.ret [4])))
def slices_ContainsFunc_int_I : FInfo := ⟨(.fz false), 2, slices_ContainsFunc_int_C, [.tmp 4]⟩
def slices_ContainsFunc_int_A : Ann := ⟨[], [], [], [], []⟩
abbrev n_slices_ContainsFunc_int : Nat := 66

/-! ### slices.IndexFunc[[]int,int] -/
def slices_IndexFunc_Int_B0 : CCode :=
 (.seq
 (.ops [
 (sP 9 (.bin .lss .ifc) [.t 8, .t 7])])
 (.seq
 (.cond (.t 9)
 .skip
 (.exit 0))
 (.seq
 (.block 1 (some [0, 1, 7, 8])
 (.seq
 (.ops [
 (sM 10 8),
 (sM 5 10)])
 (.seq
 (.ops [
 (sM 11 1),
 (sM 12 0),
 (sM 13 5),
 (sP 14 (.iaddr 1) [.t 12, .t 13]),
 (sH 15 (.load false 1) [.t 14]),
 ⟨(some 16), .call, [.t 11, .t 15], none⟩])
 (.cond (.t 16)
 (.seq
 (.ops [
 (sM 17 5),
 (sM 4 17)])
 (.ret [4]))
 .skip))))
 (.ops [
 (sP 18 (.bin .add .ifc) [.t 8, .c (.int .i64 1)]),
 (sM 8 18)]))))
def slices_IndexFunc_Int_L0 : CCode := .bloop 0 [0, 1, 7, 8] [] slices_IndexFunc_Int_B0
def slices_IndexFunc_Int_C : CCode :=
 (.seq
 (.ops [
 (sP 4 .mov [.c (.int .i64 0)])])
 (.seq
 (.seq
 (.ops [
 (sM 6 0),
 (sP 7 .len [.t 6]),
 (sP 8 .mov [.c (.int .i64 0)])])
 slices_IndexFunc_Int_L0)
 (.seq
 (.ops [
 (sP 4 .mov [.c (.int .i64 (-1))])])
 (.ret [4]))))
def slices_IndexFunc_Int_I : FInfo := ⟨(.fz false), 2, slices_IndexFunc_Int_C, [.tmp 4]⟩
def slices_IndexFunc_Int_A : Ann := ⟨[], [], [(0, [0, 1, 7, 8], [])], [(1, [0, 1, 7, 8])], []⟩
abbrev n_slices_IndexFunc_Int : Nat := 81

/-! ### slices.Contains[[]int,int] -/
def slices_Contains_int_C : CCode :=
 (.seq
 (.ops [
 (sP 4 .mov [.c (.bool false)])])
 (.seq
 (.ops [
 (sM 5 0),
 (sM 6 1),
 (sC 7 100 [.t 5, .t 6]),
 (sP 8 (.bin .geq .ifc) [.t 7, .c (.int .i64 0)]),
 (sM 4 8)])
 (.ret [4])))
def slices_Contains_int_I : FInfo := ⟨(.fz false), 2, slices_Contains_int_C, [.tmp 4]⟩
def slices_Contains_int_A : Ann := ⟨[], [], [], [], []⟩
abbrev n_slices_Contains_int : Nat := 82

/-! ### slices.Index[[]int,int] -/
def slices_Index_int_B0 : CCode :=
 (.seq
 (.ops [
 (sP 9 (.bin .lss .ifc) [.t 8, .t 7])])
 (.seq
 (.cond (.t 9)
 .skip
 (.exit 0))
 (.seq
 (.block 1 (some [0, 1, 7, 8])
 (.seq
 (.ops [
 (sM 10 8),
 (sM 5 10)])
 (.seq
 (.ops [
 (sM 11 1),
 (sM 12 0),
 (sM 13 5),
 (sP 14 (.iaddr 1) [.t 12, .t 13]),
 (sH 15 (.load false 1) [.t 14]),
 (sP 16 (.bin .eql .int) [.t 11, .t 15])])
 (.cond (.t 16)
 (.seq
 (.ops [
 (sM 17 5),
 (sM 4 17)])
 (.ret [4]))
 .skip))))
 (.ops [
 (sP 18 (.bin .add .ifc) [.t 8, .c (.int .i64 1)]),
 (sM 8 18)]))))
def slices_Index_int_L0 : CCode := .bloop 0 [0, 1, 7, 8] [] slices_Index_int_B0
def slices_Index_int_C : CCode :=
 (.seq
 (.ops [
 (sP 4 .mov [.c (.int .i64 0)])])
 (.seq
 (.seq
 (.ops [
 (sM 6 0),
 (sP 7 .len [.t 6]),
 (sP 8 .mov [.c (.int .i64 0)])])
 slices_Index_int_L0)
 (.seq
 (.ops [
 (sP 4 .mov [.c (.int .i64 (-1))])])
 (.ret [4]))))
def slices_Index_int_I : FInfo := ⟨(.fz false), 2, slices_Index_int_C, [.tmp 4]⟩
def slices_Index_int_A : Ann := ⟨[], [], [(0, [0, 1, 7, 8], [])], [(1, [0, 1, 7, 8])], []⟩
abbrev n_slices_Index_int : Nat := 100

/-! ### slices.Equal[[]int,int] -/
def slices_Equal_int_B0 : CCode :=
 (.seq
 (.ops [
 (sP 14 (.bin .lss .ifc) [.t 13, .t 12])])
 (.seq
 (.cond (.t 14)
 .skip
 (.exit 0))
 (.seq
 (.block 1 (some [0, 1, 12, 13])
 (.seq
 (.ops [
 (sM 15 13),
 (sM 5 15)])
 (.seq
 (.ops [
 (sM 16 0),
 (sM 17 5),
 (sP 18 (.iaddr 1) [.t 16, .t 17]),
 (sH 19 (.load false 1) [.t 18]),
 (sM 20 1),
 (sM 21 5),
 (sP 22 (.iaddr 1) [.t 20, .t 21]),
 (sH 23 (.load false 1) [.t 22]),
 (sP 24 (.bin .neq .int) [.t 19, .t 23])])
 (.cond (.t 24)
 (.seq
 (.ops [
 (sP 4 .mov [.c (.bool false)])])
 (.ret [4]))
 .skip))))
 (.ops [
 (sP 25 (.bin .add .ifc) [.t 13, .c (.int .i64 1)]),
 (sM 13 25)]))))
def slices_Equal_int_L0 : CCode := .bloop 0 [0, 1, 12, 13] [] slices_Equal_int_B0
def slices_Equal_int_C : CCode :=
 (.seq
 (.ops [
 (sP 4 .mov [.c (.bool false)])])
 (.seq
 (.seq
 (.ops [
 (sM 6 0),
 (sP 7 .len [.t 6]),
 (sM 8 1),
 (sP 9 .len [.t 8]),
 (sP 10 (.bin .neq .int) [.t 7, .t 9])])
 (.cond (.t 10)
 (.seq
 (.ops [
 (sP 4 .mov [.c (.bool false)])])
 (.ret [4]))
 .skip))
 (.seq
 (.seq
 (.ops [
 (sM 11 0),
 (sP 12 .len [.t 11]),
 (sP 13 .mov [.c (.int .i64 0)])])
 slices_Equal_int_L0)
 (.seq
 (.ops [
 (sP 4 .mov [.c (.bool true)])])
 (.ret [4])))))
def slices_Equal_int_I : FInfo := ⟨(.fz false), 2, slices_Equal_int_C, [.tmp 4]⟩
def slices_Equal_int_A : Ann := ⟨[], [], [(0, [0, 1, 12, 13], [])], [(1, [0, 1, 12, 13])], []⟩
abbrev n_slices_Equal_int : Nat := 62

/-! ### slices.Sort[[]int,int] -/
def slices_Sort_int_C : CCode :=
 (.seq
 (.ops [
 (sM 3 0),
 (sP 4 .len [.t 3]),
 (sM 2 4)])
 (.ops [
 (sM 5 0),
 (sM 6 2),
 (sM 7 2),
 (sP 8 (.toInt .u64) [.t 7]),
 (sC 9 76 [.t 8]),
 (sC 10 75 [.t 5, .c (.int .i64 0), .t 6, .t 9])]))
def slices_Sort_int_I : FInfo := ⟨.ref, 1, slices_Sort_int_C, []⟩
def slices_Sort_int_A : Ann := ⟨[], [], [], [], []⟩
abbrev n_slices_Sort_int : Nat := 61

/-! ### slices.pdqsortOrdered[int] -/
def slices_pdqsortOrdered_int_B0 : CCode :=
 (.block 1 (some [0, 1, 2, 3, 8, 9])
 (.seq
 (.ops [
 (sM 19 2),
 (sM 20 1),
 (sP 21 (.bin .sub .ifc) [.t 19, .t 20]),
 (sM 10 21)])
 (.seq
 (.seq
 (.ops [
 (sM 22 10),
 (sP 23 (.bin .leq .ifc) [.t 22, .c (.int .i64 12)])])
 (.cond (.t 23)
 (.seq
 (.ops [
 (sM 24 0),
 (sM 25 1),
 (sM 26 2),
 (sC 27 89 [.t 24, .t 25, .t 26])])
 (.ret []))
 .skip))
 (.seq
 (.seq
 (.ops [
 (sM 28 3),
 (sP 29 (.bin .eql .int) [.t 28, .c (.int .i64 0)])])
 (.cond (.t 29)
 (.seq
 (.ops [
 (sM 30 0),
 (sM 31 1),
 (sM 32 2),
 (sC 33 90 [.t 30, .t 31, .t 32])])
 (.ret []))
 .skip))
 (.seq
 (.seq
 (.ops [
 (sM 34 8),
 (sP 35 (.un .not) [.t 34])])
 (.cond (.t 35)
 (.seq
 (.ops [
 (sM 36 0),
 (sM 37 1),
 (sM 38 2),
 (sC 39 91 [.t 36, .t 37, .t 38])])
 (.ops [
 (sM 40 3),
 (sP 41 (.bin .sub .ifc) [.t 40, .c (.int .i64 1)]),
 (sM 3 41)]))
 .skip))
 (.seq
 (.ops [
 (sM 43 0),
 (sM 44 1),
 (sM 45 2),
 (sC 46 92 [.t 43, .t 44, .t 45]),
 (sM 42 46),
 (sP 47 (.ext 0) [.t 42]),
 (sP 48 (.ext 1) [.t 42]),
 (sM 11 47),
 (sM 12 48)])
 (.seq
 (.seq
 (.ops [
 (sM 49 12),
 (sP 50 (.bin .eql .int) [.t 49, .c (.int .i64 2)])])
 (.cond (.t 50)
 (.seq
 (.ops [
 (sM 51 0),
 (sM 52 1),
 (sM 53 2),
 (sC 54 93 [.t 51, .t 52, .t 53])])
 (.seq
 (.ops [
 (sM 55 2),
 (sP 56 (.bin .sub .ifc) [.t 55, .c (.int .i64 1)]),
 (sM 57 11),
 (sM 58 1),
 (sP 59 (.bin .sub .ifc) [.t 57, .t 58]),
 (sP 60 (.bin .sub .ifc) [.t 56, .t 59]),
 (sM 11 60)])
 (.ops [
 (sP 12 .mov [.c (.int .i64 1)])])))
 .skip))
 (.seq
 (.seq
 (.ops [
 (sM 61 8),
 (sM 62 61),
 (sG (sM 63 9) 62 true),
 (sP 64 .pick [.t 62, .t 63, .c (.bool false)]),
 (sM 65 64),
 (sG (sM 66 12) 65 true),
 (sG (sP 67 (.bin .eql .int) [.t 66, .c (.int .i64 1)]) 65 true),
 (sP 68 .pick [.t 65, .t 67, .c (.bool false)])])
 (.cond (.t 68)
 (.seq
 (.ops [
 (sM 69 0),
 (sM 70 1),
 (sM 71 2),
 (sC 72 94 [.t 69, .t 70, .t 71])])
 (.cond (.t 72)
 (.ret [])
 .skip))
 .skip))
 (.seq
 (.seq
 (.ops [
 (sM 73 1),
 (sP 74 (.bin .gtr .ifc) [.t 73, .c (.int .i64 0)]),
 (sM 75 74),
 (sG (sM 76 0) 75 true),
 (sG (sM 77 1) 75 true),
 (sG (sP 78 (.bin .sub .ifc) [.t 77, .c (.int .i64 1)]) 75 true),
 (sG (sP 79 (.iaddr 1) [.t 76, .t 78]) 75 true),
 (sG (sH 80 (.load false 1) [.t 79]) 75 true),
 (sG (sM 81 0) 75 true),
 (sG (sM 82 11) 75 true),
 (sG (sP 83 (.iaddr 1) [.t 81, .t 82]) 75 true),
 (sG (sH 84 (.load false 1) [.t 83]) 75 true),
 (sG (sC 85 95 [.t 80, .t 84]) 75 true),
 (sG (sP 86 (.un .not) [.t 85]) 75 true),
 (sP 87 .pick [.t 75, .t 86, .c (.bool false)])])
 (.cond (.t 87)
 (.seq
 (.ops [
 (sM 88 0),
 (sM 89 1),
 (sM 90 2),
 (sM 91 11),
 (sC 92 96 [.t 88, .t 89, .t 90, .t 91]),
 (sM 13 92)])
 (.seq
 (.ops [
 (sM 93 13),
 (sM 1 93)])
 (.exit 1)))
 .skip))
 (.seq
 (.ops [
 (sM 95 0),
 (sM 96 1),
 (sM 97 2),
 (sM 98 11),
 (sC 99 97 [.t 95, .t 96, .t 97, .t 98]),
 (sM 94 99),
 (sP 100 (.ext 0) [.t 94]),
 (sP 101 (.ext 1) [.t 94]),
 (sM 14 100),
 (sM 15 101)])
 (.seq
 (.ops [
 (sM 102 15),
 (sM 9 102)])
 (.seq
 (.ops [
 (sM 103 14),
 (sM 104 1),
 (sP 105 (.bin .sub .ifc) [.t 103, .t 104]),
 (sM 106 2),
 (sM 107 14),
 (sP 108 (.bin .sub .ifc) [.t 106, .t 107]),
 (sM 16 105),
 (sM 17 108)])
 (.seq
 (.ops [
 (sM 109 10),
 (sP 110 (.bin .quo .ifc) [.t 109, .c (.int .i64 8)]),
 (sM 18 110)])
 (.seq
 (.ops [
 (sM 111 16),
 (sM 112 17),
 (sP 113 (.bin .lss .ifc) [.t 111, .t 112])])
 (.cond (.t 113)
 (.seq
 (.ops [
 (sM 114 16),
 (sM 115 18),
 (sP 116 (.bin .geq .ifc) [.t 114, .t 115]),
 (sM 8 116)])
 (.seq
 (.ops [
 (sM 117 0),
 (sM 118 1),
 (sM 119 14),
 (sM 120 3),
 (sC 121 75 [.t 117, .t 118, .t 119, .t 120])])
 (.ops [
 (sM 122 14),
 (sP 123 (.bin .add .ifc) [.t 122, .c (.int .i64 1)]),
 (sM 1 123)])))
 (.seq
 (.ops [
 (sM 124 17),
 (sM 125 18),
 (sP 126 (.bin .geq .ifc) [.t 124, .t 125]),
 (sM 8 126)])
 (.seq
 (.ops [
 (sM 127 0),
 (sM 128 14),
 (sP 129 (.bin .add .ifc) [.t 128, .c (.int .i64 1)]),
 (sM 130 2),
 (sM 131 3),
 (sC 132 75 [.t 127, .t 129, .t 130, .t 131])])
 (.ops [
 (sM 133 14),
 (sM 2 133)]))))))))))))))))))
def slices_pdqsortOrdered_int_L0 : CCode := .bloop 0 [0, 1, 2, 3, 8, 9] [] slices_pdqsortOrdered_int_B0
def slices_pdqsortOrdered_int_C : CCode :=
 (.seq
 (.ops [
 (sP 8 .mov [.c (.bool true)])])
 (.seq
 (.ops [
 (sP 9 .mov [.c (.bool true)])])
 slices_pdqsortOrdered_int_L0))
def slices_pdqsortOrdered_int_I : FInfo := ⟨.ref, 4, slices_pdqsortOrdered_int_C, []⟩
def slices_pdqsortOrdered_int_A : Ann := ⟨[], [], [(0, [0, 1, 2, 3, 8, 9], [])], [(1, [0, 1, 2, 3, 8, 9])], []⟩
abbrev n_slices_pdqsortOrdered_int : Nat := 75

/-! ### slices.insertionSortOrdered[int] -/
def slices_insertionSortOrdered_int_B2 : CCode :=
 (.seq
 (.seq
 (.ops [
 (sM 16 7),
 (sM 17 1),
 (sP 18 (.bin .gtr .ifc) [.t 16, .t 17]),
 (sM 19 18),
 (sG (sM 20 0) 19 true),
 (sG (sM 21 7) 19 true),
 (sG (sP 22 (.iaddr 1) [.t 20, .t 21]) 19 true),
 (sG (sH 23 (.load false 1) [.t 22]) 19 true),
 (sG (sM 24 0) 19 true),
 (sG (sM 25 7) 19 true),
 (sG (sP 26 (.bin .sub .ifc) [.t 25, .c (.int .i64 1)]) 19 true),
 (sG (sP 27 (.iaddr 1) [.t 24, .t 26]) 19 true),
 (sG (sH 28 (.load false 1) [.t 27]) 19 true),
 (sG (sC 29 95 [.t 23, .t 28]) 19 true),
 (sP 30 .pick [.t 19, .t 29, .c (.bool false)])])
 (.cond (.t 30)
 .skip
 (.exit 2)))
 (.seq
 (.block 3 (some [0, 1, 2, 6, 7])
 (.ops [
 (sM 33 0),
 (sM 34 7),
 (sM 35 0),
 (sM 36 7),
 (sP 37 (.bin .sub .ifc) [.t 36, .c (.int .i64 1)]),
 (sM 38 0),
 (sM 39 7),
 (sP 40 (.bin .sub .ifc) [.t 39, .c (.int .i64 1)]),
 (sP 41 (.iaddr 1) [.t 38, .t 40]),
 (sH 42 (.load false 1) [.t 41]),
 (sM 43 0),
 (sM 44 7),
 (sP 45 (.iaddr 1) [.t 43, .t 44]),
 (sH 46 (.load false 1) [.t 45]),
 (sP 47 (.iaddr 1) [.t 33, .t 34]),
 (sHn (.store 1) [.t 47, .t 42]),
 (sP 48 (.iaddr 1) [.t 35, .t 37]),
 (sHn (.store 1) [.t 48, .t 46])]))
 (.ops [
 (sM 31 7),
 (sP 32 (.bin .sub .ifc) [.t 31, .c (.int .i64 1)]),
 (sM 7 32)])))
def slices_insertionSortOrdered_int_L2 : CCode := .bloop 2 [0, 1, 2, 6, 7] [0, 1, 2, 6] slices_insertionSortOrdered_int_B2

def slices_insertionSortOrdered_int_B0 : CCode :=
 (.seq
 (.seq
 (.ops [
 (sM 10 6),
 (sM 11 2),
 (sP 12 (.bin .lss .ifc) [.t 10, .t 11])])
 (.cond (.t 12)
 .skip
 (.exit 0)))
 (.seq
 (.block 1 (some [0, 1, 2, 6])
 (.seq
 (.ops [
 (sM 15 6),
 (sM 7 15)])
 slices_insertionSortOrdered_int_L2))
 (.ops [
 (sM 13 6),
 (sP 14 (.bin .add .ifc) [.t 13, .c (.int .i64 1)]),
 (sM 6 14)])))
def slices_insertionSortOrdered_int_L0 : CCode := .bloop 0 [0, 1, 2, 6] [] slices_insertionSortOrdered_int_B0
def slices_insertionSortOrdered_int_C : CCode :=
 (.seq
 (.ops [
 (sM 8 1),
 (sP 9 (.bin .add .ifc) [.t 8, .c (.int .i64 1)]),
 (sM 6 9)])
 slices_insertionSortOrdered_int_L0)
def slices_insertionSortOrdered_int_I : FInfo := ⟨.ref, 3, slices_insertionSortOrdered_int_C, []⟩
def slices_insertionSortOrdered_int_A : Ann := ⟨[], [], [(0, [0, 1, 2, 6], []), (2, [0, 1, 2, 6, 7], [0, 1, 2, 6])], [(1, [0, 1, 2, 6]), (3, [0, 1, 2, 6, 7])], []⟩
abbrev n_slices_insertionSortOrdered_int : Nat := 89

/-! ### cmp.Less[int] -/
def cmp_Less_int_C : CCode :=
 (.seq
 (.ops [
 (sP 4 .mov [.c (.bool false)])])
 (.seq
 (.ops [
 (sM 5 0),
 (sC 6 112 [.t 5]),
 (sM 7 6),
 (sG (sM 8 1) 7 true),
 (sG (sC 9 112 [.t 8]) 7 true),
 (sG (sP 10 (.un .not) [.t 9]) 7 true),
 (sP 11 .pick [.t 7, .t 10, .c (.bool false)]),
 (sM 12 11),
 (sG (sM 13 0) 12 false),
 (sG (sM 14 1) 12 false),
 (sG (sP 15 (.bin .lss .ifc) [.t 13, .t 14]) 12 false),
 (sP 16 .pick [.t 12, .c (.bool true), .t 15]),
 (sM 4 16)])
 (.ret [4])))
def cmp_Less_int_I : FInfo := ⟨(.fz false), 2, cmp_Less_int_C, [.tmp 4]⟩
def cmp_Less_int_A : Ann := ⟨[], [], [], [], []⟩
abbrev n_cmp_Less_int : Nat := 95

/-! ### cmp.isNaN[int] -/
def cmp_isNaN_int_C : CCode :=
 (.seq
 (.ops [
 (sP 2 .mov [.c (.bool false)])])
 (.seq
 (.ops [
 (sM 3 0),
 (sM 4 0),
 (sP 5 (.bin .neq .int) [.t 3, .t 4]),
 (sM 2 5)])
 (.ret [2])))
def cmp_isNaN_int_I : FInfo := ⟨(.fz false), 1, cmp_isNaN_int_C, [.tmp 2]⟩
def cmp_isNaN_int_A : Ann := ⟨[], [], [], [], []⟩
abbrev n_cmp_isNaN_int : Nat := 112

/-! ### math/bits.Len -/
def math_bits_Len_C : CCode :=
 (.seq
 (.ops [
 (sP 2 .mov [.c (.int .i64 0)])])
 (.seq
 (.cond (.c (.bool false))
 (.seq
 (.ops [
 (sM 3 0),
 (sP 4 (.toInt .u32) [.t 3]),
 (sC 5 98 [.t 4]),
 (sM 2 5)])
 (.ret [2]))
 .skip)
 (.seq
 (.ops [
 (sM 6 0),
 (sC 7 99 [.t 6]),
 (sM 2 7)])
 (.ret [2]))))
def math_bits_Len_I : FInfo := ⟨(.fz false), 1, math_bits_Len_C, [.tmp 2]⟩
def math_bits_Len_A : Ann := ⟨[], [], [], [], []⟩
abbrev n_math_bits_Len : Nat := 76

/-! ### math/bits.Len64 -/
def math_bits_Len64_C : CCode :=
 (.seq
 (.ops [
 (sP 2 .mov [.c (.int .i64 0)])])
 (.seq
 (.seq
 (.ops [
 (sM 3 0),
 (sP 4 (.bin .geq .ifc) [.t 3, .c (.int .u64 4294967296)])])
 (.cond (.t 4)
 (.seq
 (.ops [
 (sM 5 0),
 (sP 6 (.bin .shr .ifc) [.t 5, .c (.int .u64 32)]),
 (sM 0 6)])
 (.ops [
 (sP 2 .mov [.c (.int .i64 32)])]))
 .skip))
 (.seq
 (.seq
 (.ops [
 (sM 7 0),
 (sP 8 (.bin .geq .ifc) [.t 7, .c (.int .u64 65536)])])
 (.cond (.t 8)
 (.seq
 (.ops [
 (sM 9 0),
 (sP 10 (.bin .shr .ifc) [.t 9, .c (.int .u64 16)]),
 (sM 0 10)])
 (.ops [
 (sM 11 2),
 (sP 12 (.bin .add .ifc) [.t 11, .c (.int .i64 16)]),
 (sM 2 12)]))
 .skip))
 (.seq
 (.seq
 (.ops [
 (sM 13 0),
 (sP 14 (.bin .geq .ifc) [.t 13, .c (.int .u64 256)])])
 (.cond (.t 14)
 (.seq
 (.ops [
 (sM 15 0),
 (sP 16 (.bin .shr .ifc) [.t 15, .c (.int .u64 8)]),
 (sM 0 16)])
 (.ops [
 (sM 17 2),
 (sP 18 (.bin .add .ifc) [.t 17, .c (.int .i64 8)]),
 (sM 2 18)]))
 .skip))
 (.seq
 (.ops [
 (sM 19 2),
 (sM 20 0),
 (sP 21 (.toInt .u8) [.t 20]),
 (sP 22 .idxS [.c (.str (ByteArray.mk #[0, 1, 2, 2, 3, 3, 3, 3, 4, 4, 4, 4, 4, 4, 4, 4, 5, 5, 5, 5, 5, 5, 5, 5, 5, 5, 5, 5, 5, 5, 5, 5, 6, 6, 6, 6, 6, 6, 6, 6, 6, 6, 6, 6, 6, 6, 6, 6, 6, 6, 6, 6, 6, 6, 6, 6, 6, 6, 6, 6, 6, 6, 6, 6, 7, 7, 7, 7, 7, 7, 7, 7, 7, 7, 7, 7, 7, 7, 7, 7, 7, 7, 7, 7, 7, 7, 7, 7, 7, 7, 7, 7, 7, 7, 7, 7, 7, 7, 7, 7, 7, 7, 7, 7, 7, 7, 7, 7, 7, 7, 7, 7, 7, 7, 7, 7, 7, 7, 7, 7, 7, 7, 7, 7, 7, 7, 7, 7, 8, 8, 8, 8, 8, 8, 8, 8, 8, 8, 8, 8, 8, 8, 8, 8, 8, 8, 8, 8, 8, 8, 8, 8, 8, 8, 8, 8, 8, 8, 8, 8, 8, 8, 8, 8, 8, 8, 8, 8, 8, 8, 8, 8, 8, 8, 8, 8, 8, 8, 8, 8, 8, 8, 8, 8, 8, 8, 8, 8, 8, 8, 8, 8, 8, 8, 8, 8, 8, 8, 8, 8, 8, 8, 8, 8, 8, 8, 8, 8, 8, 8, 8, 8, 8, 8, 8, 8, 8, 8, 8, 8, 8, 8, 8, 8, 8, 8, 8, 8, 8, 8, 8, 8, 8, 8, 8, 8, 8, 8, 8, 8, 8, 8, 8, 8, 8, 8, 8, 8, 8, 8, 8, 8, 8, 8, 8, 8])), .t 21]),
 (sP 23 (.toInt .i64) [.t 22]),
 (sP 24 (.bin .add .ifc) [.t 19, .t 23]),
 (sM 2 24)])
 (.ret [2]))))))
def math_bits_Len64_I : FInfo := ⟨(.fz false), 1, math_bits_Len64_C, [.tmp 2]⟩
def math_bits_Len64_A : Ann := ⟨[], [], [], [], []⟩
abbrev n_math_bits_Len64 : Nat := 99

/-! ### math/bits.Len32 -/
def math_bits_Len32_C : CCode :=
 (.seq
 (.ops [
 (sP 2 .mov [.c (.int .i64 0)])])
 (.seq
 (.seq
 (.ops [
 (sM 3 0),
 (sP 4 (.bin .geq .ifc) [.t 3, .c (.int .u32 65536)])])
 (.cond (.t 4)
 (.seq
 (.ops [
 (sM 5 0),
 (sP 6 (.bin .shr .ifc) [.t 5, .c (.int .u64 16)]),
 (sM 0 6)])
 (.ops [
 (sP 2 .mov [.c (.int .i64 16)])]))
 .skip))
 (.seq
 (.seq
 (.ops [
 (sM 7 0),
 (sP 8 (.bin .geq .ifc) [.t 7, .c (.int .u32 256)])])
 (.cond (.t 8)
 (.seq
 (.ops [
 (sM 9 0),
 (sP 10 (.bin .shr .ifc) [.t 9, .c (.int .u64 8)]),
 (sM 0 10)])
 (.ops [
 (sM 11 2),
 (sP 12 (.bin .add .ifc) [.t 11, .c (.int .i64 8)]),
 (sM 2 12)]))
 .skip))
 (.seq
 (.ops [
 (sM 13 2),
 (sM 14 0),
 (sP 15 (.toInt .u8) [.t 14]),
 (sP 16 .idxS [.c (.str (ByteArray.mk #[0, 1, 2, 2, 3, 3, 3, 3, 4, 4, 4, 4, 4, 4, 4, 4, 5, 5, 5, 5, 5, 5, 5, 5, 5, 5, 5, 5, 5, 5, 5, 5, 6, 6, 6, 6, 6, 6, 6, 6, 6, 6, 6, 6, 6, 6, 6, 6, 6, 6, 6, 6, 6, 6, 6, 6, 6, 6, 6, 6, 6, 6, 6, 6, 7, 7, 7, 7, 7, 7, 7, 7, 7, 7, 7, 7, 7, 7, 7, 7, 7, 7, 7, 7, 7, 7, 7, 7, 7, 7, 7, 7, 7, 7, 7, 7, 7, 7, 7, 7, 7, 7, 7, 7, 7, 7, 7, 7, 7, 7, 7, 7, 7, 7, 7, 7, 7, 7, 7, 7, 7, 7, 7, 7, 7, 7, 7, 7, 8, 8, 8, 8, 8, 8, 8, 8, 8, 8, 8, 8, 8, 8, 8, 8, 8, 8, 8, 8, 8, 8, 8, 8, 8, 8, 8, 8, 8, 8, 8, 8, 8, 8, 8, 8, 8, 8, 8, 8, 8, 8, 8, 8, 8, 8, 8, 8, 8, 8, 8, 8, 8, 8, 8, 8, 8, 8, 8, 8, 8, 8, 8, 8, 8, 8, 8, 8, 8, 8, 8, 8, 8, 8, 8, 8, 8, 8, 8, 8, 8, 8, 8, 8, 8, 8, 8, 8, 8, 8, 8, 8, 8, 8, 8, 8, 8, 8, 8, 8, 8, 8, 8, 8, 8, 8, 8, 8, 8, 8, 8, 8, 8, 8, 8, 8, 8, 8, 8, 8, 8, 8, 8, 8, 8, 8, 8, 8])), .t 15]),
 (sP 17 (.toInt .i64) [.t 16]),
 (sP 18 (.bin .add .ifc) [.t 13, .t 17]),
 (sM 2 18)])
 (.ret [2])))))
def math_bits_Len32_I : FInfo := ⟨(.fz false), 1, math_bits_Len32_C, [.tmp 2]⟩
def math_bits_Len32_A : Ann := ⟨[], [], [], [], []⟩
abbrev n_math_bits_Len32 : Nat := 98

/-! ### slices.Compact[[]int,int] -/
def slices_Compact_int_B2 : CCode :=
 (.seq
 (.seq
 (.ops [
 (sM 29 5),
 (sM 30 4),
 (sP 31 .len [.t 30]),
 (sP 32 (.bin .lss .ifc) [.t 29, .t 31])])
 (.cond (.t 32)
 .skip
 (.exit 2)))
 (.seq
 (.block 3 (some [0, 3, 4, 5])
 (.seq
 (.ops [
 (sM 35 4),
 (sM 36 5),
 (sP 37 (.iaddr 1) [.t 35, .t 36]),
 (sH 38 (.load false 1) [.t 37]),
 (sM 39 4),
 (sM 40 5),
 (sP 41 (.bin .sub .ifc) [.t 40, .c (.int .i64 1)]),
 (sP 42 (.iaddr 1) [.t 39, .t 41]),
 (sH 43 (.load false 1) [.t 42]),
 (sP 44 (.bin .neq .int) [.t 38, .t 43])])
 (.cond (.t 44)
 (.seq
 (.ops [
 (sM 45 0),
 (sM 46 3),
 (sM 47 4),
 (sM 48 5),
 (sP 49 (.iaddr 1) [.t 47, .t 48]),
 (sH 50 (.load false 1) [.t 49]),
 (sP 51 (.iaddr 1) [.t 45, .t 46]),
 (sHn (.store 1) [.t 51, .t 50])])
 (.ops [
 (sM 52 3),
 (sP 53 (.bin .add .ifc) [.t 52, .c (.int .i64 1)]),
 (sM 3 53)]))
 .skip)))
 (.ops [
 (sM 33 5),
 (sP 34 (.bin .add .ifc) [.t 33, .c (.int .i64 1)]),
 (sM 5 34)])))
def slices_Compact_int_L2 : CCode := .bloop 2 [0, 3, 4, 5] [0, 3] slices_Compact_int_B2

def slices_Compact_int_B0 : CCode :=
 (.seq
 (.seq
 (.ops [
 (sM 10 3),
 (sM 11 0),
 (sP 12 .len [.t 11]),
 (sP 13 (.bin .lss .ifc) [.t 10, .t 12])])
 (.cond (.t 13)
 .skip
 (.exit 0)))
 (.seq
 (.block 1 (some [0, 3])
 (.seq
 (.ops [
 (sM 16 0),
 (sM 17 3),
 (sP 18 (.iaddr 1) [.t 16, .t 17]),
 (sH 19 (.load false 1) [.t 18]),
 (sM 20 0),
 (sM 21 3),
 (sP 22 (.bin .sub .ifc) [.t 21, .c (.int .i64 1)]),
 (sP 23 (.iaddr 1) [.t 20, .t 22]),
 (sH 24 (.load false 1) [.t 23]),
 (sP 25 (.bin .eql .int) [.t 19, .t 24])])
 (.cond (.t 25)
 (.seq
 (.ops [
 (sM 26 0),
 (sM 27 3),
 (sP 28 (.slc 1 true false) [.t 26, .t 27]),
 (sM 4 28)])
 (.seq
 (.seq
 (.ops [
 (sP 5 .mov [.c (.int .i64 1)])])
 slices_Compact_int_L2)
 (.seq
 (.ops [
 (sM 54 0),
 (sM 55 3),
 (sP 56 (.slc 1 true false) [.t 54, .t 55]),
 (sHn (.clear 1 [(.int .i64 0)]) [.t 56])])
 (.seq
 (.ops [
 (sM 57 0),
 (sM 58 3),
 (sP 59 (.slc 1 false true) [.t 57, .t 58]),
 (sM 2 59)])
 (.ret [2])))))
 .skip)))
 (.ops [
 (sM 14 3),
 (sP 15 (.bin .add .ifc) [.t 14, .c (.int .i64 1)]),
 (sM 3 15)])))
def slices_Compact_int_L0 : CCode := .bloop 0 [0, 3] [0] slices_Compact_int_B0
def slices_Compact_int_C : CCode :=
 (.seq
 (.ops [
 (sP 2 .mov [.c .nils])])
 (.seq
 (.seq
 (.ops [
 (sM 6 0),
 (sP 7 .len [.t 6]),
 (sP 8 (.bin .lss .ifc) [.t 7, .c (.int .i64 2)])])
 (.cond (.t 8)
 (.seq
 (.ops [
 (sM 9 0),
 (sM 2 9)])
 (.ret [2]))
 .skip))
 (.seq
 (.seq
 (.ops [
 (sP 3 .mov [.c (.int .i64 1)])])
 slices_Compact_int_L0)
 (.seq
 (.ops [
 (sM 60 0),
 (sM 2 60)])
 (.ret [2])))))
def slices_Compact_int_I : FInfo := ⟨.ref, 1, slices_Compact_int_C, [.tmp 2]⟩
def slices_Compact_int_A : Ann := ⟨[], [], [(0, [0, 3], [0]), (2, [0, 3, 4, 5], [0, 3])], [(1, [0, 3]), (3, [0, 3, 4, 5])], []⟩
abbrev n_slices_Compact_int : Nat := 63

/-! ### balise/baliseref01.Dot -/
def r01_Dot_C : CCode :=
 (.seq
 (.ops [
 (sP 4 .mov [.c (.int .i64 0)])])
 (.seq
 (.ops [
 (sM 10 0),
 (sC 11 25 [.t 10]),
 (sM 9 11),
 (sP 12 (.ext 0) [.t 9]),
 (sP 13 (.ext 1) [.t 9]),
 (sM 5 12),
 (sM 6 13)])
 (.seq
 (.ops [
 (sM 15 1),
 (sC 16 25 [.t 15]),
 (sM 14 16),
 (sP 17 (.ext 0) [.t 14]),
 (sP 18 (.ext 1) [.t 14]),
 (sM 7 17),
 (sM 8 18)])
 (.seq
 (.ops [
 (sM 19 5),
 (sM 20 7),
 (sP 21 (.bin .mul .ifc) [.t 19, .t 20]),
 (sM 22 6),
 (sM 23 8),
 (sP 24 (.bin .mul .ifc) [.t 22, .t 23]),
 (sP 25 (.bin .add .ifc) [.t 21, .t 24]),
 (sM 4 25)])
 (.ret [4])))))
def r01_Dot_I : FInfo := ⟨(.fz false), 2, r01_Dot_C, [.tmp 4]⟩
def r01_Dot_A : Ann := ⟨[], [], [], [], []⟩
abbrev n_r01_Dot : Nat := 18

/-! ### balise/baliseref01.At -/
def r01_At_C : CCode :=
 (.seq
 (.ops [
 (sP 2 .mov [.c (.int .i64 0)]),
 (sP 3 .mov [.c (.int .i64 0)])])
 (.seq
 (.ops [
 (sM 4 0),
 (sP 5 .re [.t 4]),
 (sP 6 (.toInt .i64) [.t 5]),
 (sM 7 0),
 (sP 8 .im [.t 7]),
 (sP 9 (.toInt .i64) [.t 8]),
 (sM 2 6),
 (sM 3 9)])
 (.ret [2, 3])))
def r01_At_I : FInfo := ⟨(.fz false), 1, r01_At_C, [.tmp 2, .tmp 3]⟩
def r01_At_A : Ann := ⟨[], [], [], [], []⟩
abbrev n_r01_At : Nat := 25

/-! ### balise/baliseref01.Place -/
def r01_Place_C : CCode :=
 (.seq
 (.ops [
 (sP 2 .mov [.c (.bool false)])])
 (.seq
 (.ops [
 (sM 3 0),
 (sP 4 .re [.t 3]),
 (sC 5 69 [.t 4]),
 (sM 6 5),
 (sG (sM 7 0) 6 true),
 (sG (sP 8 .im [.t 7]) 6 true),
 (sG (sC 9 69 [.t 8]) 6 true),
 (sP 10 .pick [.t 6, .t 9, .c (.bool false)]),
 (sM 2 10)])
 (.ret [2])))
def r01_Place_I : FInfo := ⟨(.fz false), 1, r01_Place_C, [.tmp 2]⟩
def r01_Place_A : Ann := ⟨[], [], [], [], []⟩
abbrev n_r01_Place : Nat := 49

/-! ### balise/baliseref01.whole -/
def r01_whole_C : CCode :=
 (.seq
 (.ops [
 (sP 2 .mov [.c (.bool false)])])
 (.seq
 (.ops [
 (sM 3 0),
 (sP 4 (.bin .geq .ifc) [.t 3, .c (.float .f64 13920209183539462144)]),
 (sM 5 4),
 (sG (sM 6 0) 5 true),
 (sG (sP 7 (.bin .leq .ifc) [.t 6, .c (.float .f64 4696837146684686336)]) 5 true),
 (sP 8 .pick [.t 5, .t 7, .c (.bool false)]),
 (sM 9 8),
 (sG (sM 10 0) 9 true),
 (sG (sP 11 (.toInt .i64) [.t 10]) 9 true),
 (sG (sP 12 (.toFloat .f64) [.t 11]) 9 true),
 (sG (sM 13 0) 9 true),
 (sG (sP 14 (.bin .eql .ifc) [.t 12, .t 13]) 9 true),
 (sP 15 .pick [.t 9, .t 14, .c (.bool false)]),
 (sM 2 15)])
 (.ret [2])))
def r01_whole_I : FInfo := ⟨(.fz false), 1, r01_whole_C, [.tmp 2]⟩
def r01_whole_A : Ann := ⟨[], [], [], [], []⟩
abbrev n_r01_whole : Nat := 69

/-! ### balise/baliseref01.Fits -/
def r01_Fits_C : CCode :=
 (.seq
 (.ops [
 (sP 6 .mov [.c (.bool false)])])
 (.seq
 (.seq
 (.ops [
 (sM 8 2),
 (sP 9 (.bin .lss .ifc) [.t 8, .c (.int .i64 1)]),
 (sM 10 9),
 (sG (sM 11 2) 10 false),
 (sG (sP 12 (.bin .gtr .ifc) [.t 11, .c (.int .i64 10000)]) 10 false),
 (sP 13 .pick [.t 10, .c (.bool true), .t 12])])
 (.cond (.t 13)
 (.seq
 (.ops [
 (sP 6 .mov [.c (.bool false)])])
 (.ret [6]))
 .skip))
 (.seq
 (.ops [
 (sM 14 1),
 (sM 15 0),
 (sP 16 (.bin .sub .ifc) [.t 14, .t 15]),
 (sM 17 1),
 (sM 18 0),
 (sP 19 (.bin .sub .ifc) [.t 17, .t 18]),
 (sC 20 18 [.t 16, .t 19]),
 (sM 7 20)])
 (.seq
 (.ops [
 (sM 21 7),
 (sP 22 (.bin .gtr .ifc) [.t 21, .c (.int .i64 0)]),
 (sM 23 22),
 (sG (sM 24 2) 23 true),
 (sG (sM 25 2) 23 true),
 (sG (sP 26 (.bin .mul .ifc) [.t 24, .t 25]) 23 true),
 (sG (sM 27 7) 23 true),
 (sG (sP 28 (.bin .geq .ifc) [.t 26, .t 27]) 23 true),
 (sP 29 .pick [.t 23, .t 28, .c (.bool false)]),
 (sM 6 29)])
 (.ret [6])))))
def r01_Fits_I : FInfo := ⟨(.fz false), 3, r01_Fits_C, [.tmp 6]⟩
def r01_Fits_A : Ann := ⟨[], [], [], [], []⟩
abbrev n_r01_Fits : Nat := 51

/-! ### balise/baliseref06.First -/
def r06_First_B2 : CCode :=
 (.seq
 (.seq
 (.ops [
 (sM 19 7),
 (sM 20 5),
 (sP 21 (.bin .lss .ifc) [.t 19, .t 20])])
 (.cond (.t 21)
 .skip
 (.exit 2)))
 (.seq
 (.block 3 (some [1, 4, 5, 6, 7])
 (.seq
 (.ops [
 (sH 24 (.load true 10) [.t 1]),
 (sM 25 4),
 (sM 26 7),
 (sC 27 27 [.t 24, .t 25, .t 26]),
 (sP 28 (.un .not) [.t 27])])
 (.cond (.t 28)
 (.seq
 (.ops [
 (sM 29 4),
 (sM 30 7),
 (sM 2 29),
 (sM 3 30)])
 (.ret [2, 3]))
 .skip)))
 (.ops [
 (sM 22 7),
 (sP 23 (.bin .add .ifc) [.t 22, .c (.int .i64 1)]),
 (sM 7 23)])))
def r06_First_L2 : CCode := .bloop 2 [1, 4, 5, 6, 7] [1, 4, 6] r06_First_B2

def r06_First_B4 : CCode :=
 (.seq
 (.seq
 (.ops [
 (sM 31 8),
 (sM 32 6),
 (sP 33 (.bin .lss .ifc) [.t 31, .t 32])])
 (.cond (.t 33)
 .skip
 (.exit 4)))
 (.seq
 (.block 5 (some [1, 4, 6, 8])
 (.seq
 (.ops [
 (sH 36 (.load true 10) [.t 1]),
 (sM 37 4),
 (sM 38 8),
 (sC 39 28 [.t 36, .t 37, .t 38]),
 (sP 40 (.un .not) [.t 39])])
 (.cond (.t 40)
 (.seq
 (.ops [
 (sM 41 4),
 (sM 42 8),
 (sM 2 41),
 (sM 3 42)])
 (.ret [2, 3]))
 .skip)))
 (.ops [
 (sM 34 8),
 (sP 35 (.bin .add .ifc) [.t 34, .c (.int .i64 1)]),
 (sM 8 35)])))
def r06_First_L4 : CCode := .bloop 4 [1, 4, 6, 8] [1, 4] r06_First_B4

def r06_First_B0 : CCode :=
 (.seq
 (.seq
 (.ops [
 (sM 9 4),
 (sP 10 (.bin .leq .ifc) [.t 9, .c (.int .i64 15)])])
 (.cond (.t 10)
 .skip
 (.exit 0)))
 (.seq
 (.block 1 (some [1, 4])
 (.seq
 (.ops [
 (sH 14 (.load true 10) [.t 1]),
 (sM 15 4),
 (sC 16 26 [.t 14, .t 15]),
 (sM 13 16),
 (sP 17 (.ext 0) [.t 13]),
 (sP 18 (.ext 1) [.t 13]),
 (sM 5 17),
 (sM 6 18)])
 (.seq
 (.seq
 (.ops [
 (sP 7 .mov [.c (.int .i64 0)])])
 r06_First_L2)
 (.seq
 (.ops [
 (sP 8 .mov [.c (.int .i64 0)])])
 r06_First_L4))))
 (.ops [
 (sM 11 4),
 (sP 12 (.bin .add .ifc) [.t 11, .c (.int .i64 1)]),
 (sM 4 12)])))
def r06_First_L0 : CCode := .bloop 0 [1, 4] [] r06_First_B0
def r06_First_C : CCode :=
 (.seq
 (.ops [
 (sH 1 (.box 1) [.t 0]),
 (sP 2 .mov [.c (.int .i64 0)]),
 (sP 3 .mov [.c (.int .i64 0)])])
 (.seq
 (.seq
 (.ops [
 (sP 4 .mov [.c (.int .i64 1)])])
 r06_First_L0)
 (.seq
 (.ops [
 (sP 2 .mov [.c (.int .i64 0)]),
 (sP 3 .mov [.c (.int .i64 0)])])
 (.ret [2, 3]))))
def r06_First_I : FInfo := ⟨(.fz false), 1, r06_First_C, [.tmp 2, .tmp 3]⟩
def r06_First_A : Ann := ⟨[], [], [(0, [1, 4], []), (2, [1, 4, 5, 6, 7], [1, 4, 6]), (4, [1, 4, 6, 8], [1, 4])], [(1, [1, 4]), (3, [1, 4, 5, 6, 7]), (5, [1, 4, 6, 8])], [1]⟩
abbrev n_r06_First : Nat := 19

/-! ### balise/baliseref06.places -/
def r06_places_C : CCode :=
 (.seq
 (.ops [
 (sH 2 (.box 2) [.t 0]),
 (sP 4 .mov [.c (.int .i64 0)]),
 (sP 5 .mov [.c (.int .i64 0)])])
 (.seq
 (.seq
 (.ops [
 (sM 6 1)])
 (.block 0 (some [])
 (.seq
 (.seq
 (.ops [
 (sP 8 (.bin .eql .int) [.t 6, .c (.int .i64 2)]),
 (sM 7 8)])
 (.cond (.t 7)
 .skip
 (.seq
 (.ops [
 (sP 9 (.bin .eql .int) [.t 6, .c (.int .i64 8)]),
 (sM 7 9)])
 (.cond (.t 7)
 .skip
 (.seq
 (.ops [
 (sP 10 (.bin .eql .int) [.t 6, .c (.int .i64 11)]),
 (sM 7 10)])
 (.cond (.t 7)
 .skip
 (.ops [
 (sP 11 (.bin .eql .int) [.t 6, .c (.int .i64 12)]),
 (sM 7 11)])))))))
 (.cond (.t 7)
 (.seq
 (.ops [
 (sP 12 (.faddr 0) [.t 2]),
 (sH 13 (.load false 1) [.t 12]),
 (sP 14 .len [.t 13]),
 (sM 4 14),
 (sP 5 .mov [.c (.int .i64 0)])])
 (.ret [4, 5]))
 (.seq
 (.seq
 (.ops [
 (sP 16 (.bin .eql .int) [.t 6, .c (.int .i64 4)]),
 (sM 15 16)])
 (.cond (.t 15)
 .skip
 (.seq
 (.ops [
 (sP 17 (.bin .eql .int) [.t 6, .c (.int .i64 6)]),
 (sM 15 17)])
 (.cond (.t 15)
 .skip
 (.ops [
 (sP 18 (.bin .eql .int) [.t 6, .c (.int .i64 14)]),
 (sM 15 18)])))))
 (.cond (.t 15)
 (.seq
 (.ops [
 (sP 19 (.faddr 1) [.t 2]),
 (sH 20 (.load false 1) [.t 19]),
 (sP 21 .len [.t 20]),
 (sM 4 21),
 (sP 5 .mov [.c (.int .i64 0)])])
 (.ret [4, 5]))
 (.seq
 (.ops [
 (sP 23 (.bin .eql .int) [.t 6, .c (.int .i64 10)]),
 (sM 22 23)])
 (.cond (.t 22)
 (.seq
 (.ops [
 (sP 24 (.faddr 3) [.t 2]),
 (sH 25 (.load false 1) [.t 24]),
 (sP 26 .len [.t 25]),
 (sM 4 26),
 (sP 5 .mov [.c (.int .i64 0)])])
 (.ret [4, 5]))
 (.seq
 (.ops [
 (sP 28 (.bin .eql .int) [.t 6, .c (.int .i64 13)]),
 (sM 27 28)])
 (.cond (.t 27)
 (.seq
 (.ops [
 (sP 29 (.faddr 2) [.t 2]),
 (sH 30 (.load false 1) [.t 29]),
 (sP 31 .len [.t 30]),
 (sP 4 .mov [.c (.int .i64 1)]),
 (sM 5 31)])
 (.ret [4, 5]))
 (.seq
 (.ops [
 (sP 33 (.bin .eql .int) [.t 6, .c (.int .i64 15)]),
 (sM 32 33)])
 (.cond (.t 32)
 (.seq
 (.ops [
 (sP 34 (.faddr 4) [.t 2]),
 (sH 35 (.load false 1) [.t 34]),
 (sP 36 .len [.t 35]),
 (sP 4 .mov [.c (.int .i64 1)]),
 (sM 5 36)])
 (.ret [4, 5]))
 .skip))))))))))))
 (.seq
 (.ops [
 (sP 4 .mov [.c (.int .i64 1)]),
 (sP 5 .mov [.c (.int .i64 0)])])
 (.ret [4, 5]))))
def r06_places_I : FInfo := ⟨(.fz false), 2, r06_places_C, [.tmp 4, .tmp 5]⟩
def r06_places_A : Ann := ⟨[], [], [], [(0, [])], [2]⟩
abbrev n_r06_places : Nat := 26

/-! ### balise/baliseref06.holds -/
def r06_holds_B1 : CCode :=
 (.seq
 (.seq
 (.ops [
 (sM 36 7),
 (sM 37 2),
 (sP 38 (.bin .lss .ifc) [.t 36, .t 37])])
 (.cond (.t 38)
 .skip
 (.exit 1)))
 (.seq
 (.block 2 (some [2, 3, 7])
 (.seq
 (.ops [
 (sP 41 (.faddr 0) [.t 3]),
 (sH 42 (.load false 1) [.t 41]),
 (sM 43 7),
 (sP 44 (.iaddr 1) [.t 42, .t 43]),
 (sH 45 (.load false 1) [.t 44]),
 (sP 46 (.faddr 0) [.t 3]),
 (sH 47 (.load false 1) [.t 46]),
 (sM 48 2),
 (sP 49 (.iaddr 1) [.t 47, .t 48]),
 (sH 50 (.load false 1) [.t 49]),
 (sP 51 (.bin .eql .ifc) [.t 45, .t 50])])
 (.cond (.t 51)
 (.seq
 (.ops [
 (sP 6 .mov [.c (.bool false)])])
 (.ret [6]))
 .skip)))
 (.ops [
 (sM 39 7),
 (sP 40 (.bin .add .ifc) [.t 39, .c (.int .i64 1)]),
 (sM 7 40)])))
def r06_holds_L1 : CCode := .bloop 1 [2, 3, 7] [2, 3] r06_holds_B1

def r06_holds_B3 : CCode :=
 (.seq
 (.seq
 (.ops [
 (sM 225 12),
 (sP 226 (.bin .lss .ifc) [.t 225, .c (.int .i64 3)])])
 (.cond (.t 226)
 .skip
 (.exit 3)))
 (.seq
 (.block 4 (some [10, 11, 12])
 (.seq
 (.ops [
 (sM 229 11),
 (sM 230 12),
 (sP 231 (.iaddr 2) [.t 229, .t 230]),
 (sP 232 (.faddr 0) [.t 231]),
 (sH 233 (.load false 1) [.t 232]),
 (sM 13 233)])
 (.seq
 (.ops [
 (sM 234 13),
 (sP 235 (.faddr 1) [.t 10]),
 (sH 236 (.load false 1) [.t 235]),
 (sP 237 (.bin .neq .int) [.t 234, .t 236]),
 (sM 238 237),
 (sG (sM 239 13) 238 true),
 (sG (sP 240 (.faddr 2) [.t 10]) 238 true),
 (sG (sH 241 (.load false 1) [.t 240]) 238 true),
 (sG (sP 242 (.bin .neq .int) [.t 239, .t 241]) 238 true),
 (sP 243 .pick [.t 238, .t 242, .c (.bool false)]),
 (sM 244 243),
 (sG (sM 245 13) 244 true),
 (sG (sP 246 (.faddr 3) [.t 10]) 244 true),
 (sG (sH 247 (.load false 1) [.t 246]) 244 true),
 (sG (sP 248 (.bin .neq .int) [.t 245, .t 247]) 244 true),
 (sP 249 .pick [.t 244, .t 248, .c (.bool false)])])
 (.cond (.t 249)
 (.seq
 (.ops [
 (sP 6 .mov [.c (.bool false)])])
 (.ret [6]))
 .skip))))
 (.ops [
 (sM 227 12),
 (sP 228 (.bin .add .ifc) [.t 227, .c (.int .i64 1)]),
 (sM 12 228)])))
def r06_holds_L3 : CCode := .bloop 3 [10, 11, 12] [11] r06_holds_B3

def r06_holds_B5 : CCode :=
 (.seq
 (.seq
 (.ops [
 (sM 272 15),
 (sP 273 (.faddr 3) [.t 3]),
 (sH 274 (.load false 1) [.t 273]),
 (sP 275 .len [.t 274]),
 (sP 276 (.bin .lss .ifc) [.t 272, .t 275])])
 (.cond (.t 276)
 .skip
 (.exit 5)))
 (.seq
 (.block 6 (some [2, 3, 14, 15])
 (.seq
 (.ops [
 (sP 279 (.faddr 3) [.t 3]),
 (sH 280 (.load false 1) [.t 279]),
 (sM 281 15),
 (sP 282 (.iaddr 4) [.t 280, .t 281]),
 (sP 283 (.faddr 0) [.t 282]),
 (sH 284 (.load false 1) [.t 283]),
 (sM 285 2),
 (sP 286 (.bin .eql .int) [.t 284, .t 285])])
 (.cond (.t 286)
 (.ops [
 (sM 287 14),
 (sP 288 (.bin .add .ifc) [.t 287, .c (.int .i64 1)]),
 (sM 14 288)])
 .skip)))
 (.ops [
 (sM 277 15),
 (sP 278 (.bin .add .ifc) [.t 277, .c (.int .i64 1)]),
 (sM 15 278)])))
def r06_holds_L5 : CCode := .bloop 5 [2, 3, 14, 15] [2, 3, 14] r06_holds_B5

def r06_holds_B9 : CCode :=
 (.seq
 (.seq
 (.ops [
 (sM 377 20),
 (sP 378 (.faddr 2) [.t 3]),
 (sH 379 (.load false 1) [.t 378]),
 (sM 380 19),
 (sP 381 (.iaddr 1) [.t 379, .t 380]),
 (sH 382 (.load false 1) [.t 381]),
 (sP 383 .len [.t 382]),
 (sP 384 (.bin .lss .ifc) [.t 377, .t 383])])
 (.cond (.t 384)
 .skip
 (.exit 9)))
 (.seq
 (.block 10 (some [2, 3, 18, 19, 20])
 (.seq
 (.ops [
 (sP 387 (.faddr 2) [.t 3]),
 (sH 388 (.load false 1) [.t 387]),
 (sM 389 19),
 (sP 390 (.iaddr 1) [.t 388, .t 389]),
 (sH 391 (.load false 1) [.t 390]),
 (sM 392 20),
 (sP 393 (.iaddr 1) [.t 391, .t 392]),
 (sH 394 (.load false 1) [.t 393]),
 (sM 395 2),
 (sP 396 (.bin .eql .int) [.t 394, .t 395])])
 (.cond (.t 396)
 (.ops [
 (sM 397 18),
 (sP 398 (.bin .add .ifc) [.t 397, .c (.int .i64 1)]),
 (sM 18 398)])
 .skip)))
 (.ops [
 (sM 385 20),
 (sP 386 (.bin .add .ifc) [.t 385, .c (.int .i64 1)]),
 (sM 20 386)])))
def r06_holds_L9 : CCode := .bloop 9 [2, 3, 18, 19, 20] [2, 3, 18, 19] r06_holds_B9

def r06_holds_B7 : CCode :=
 (.seq
 (.seq
 (.ops [
 (sM 370 19),
 (sP 371 (.faddr 2) [.t 3]),
 (sH 372 (.load false 1) [.t 371]),
 (sP 373 .len [.t 372]),
 (sP 374 (.bin .lss .ifc) [.t 370, .t 373])])
 (.cond (.t 374)
 .skip
 (.exit 7)))
 (.seq
 (.block 8 (some [2, 3, 18, 19])
 (.seq
 (.ops [
 (sP 20 .mov [.c (.int .i64 0)])])
 r06_holds_L9))
 (.ops [
 (sM 375 19),
 (sP 376 (.bin .add .ifc) [.t 375, .c (.int .i64 1)]),
 (sM 19 376)])))
def r06_holds_L7 : CCode := .bloop 7 [2, 3, 18, 19] [18] r06_holds_B7
def r06_holds_C : CCode :=
 (.seq
 (.ops [
 (sH 3 (.box 3) [.t 0]),
 (sP 6 .mov [.c (.bool false)])])
 (.seq
 (.seq
 (.ops [
 (sM 21 1)])
 (.block 0 (some [3])
 (.seq
 (.ops [
 (sP 23 (.bin .eql .int) [.t 21, .c (.int .i64 1)]),
 (sM 22 23)])
 (.cond (.t 22)
 (.seq
 (.ops [
 (sP 24 (.faddr 0) [.t 3]),
 (sH 25 (.load false 1) [.t 24]),
 (sP 26 .len [.t 25]),
 (sP 27 (.bin .geq .ifc) [.t 26, .c (.int .i64 2)]),
 (sM 28 27),
 (sG (sP 29 (.faddr 0) [.t 3]) 28 true),
 (sG (sH 30 (.load false 1) [.t 29]) 28 true),
 (sG (sP 31 .len [.t 30]) 28 true),
 (sG (sP 32 (.bin .leq .ifc) [.t 31, .c (.int .i64 40)]) 28 true),
 (sP 33 .pick [.t 28, .t 32, .c (.bool false)]),
 (sM 6 33)])
 (.ret [6]))
 (.seq
 (.ops [
 (sP 35 (.bin .eql .int) [.t 21, .c (.int .i64 2)]),
 (sM 34 35)])
 (.cond (.t 34)
 (.seq
 (.seq
 (.ops [
 (sP 7 .mov [.c (.int .i64 0)])])
 r06_holds_L1)
 (.seq
 (.ops [
 (sP 52 (.faddr 0) [.t 3]),
 (sH 53 (.load false 1) [.t 52]),
 (sM 54 2),
 (sP 55 (.iaddr 1) [.t 53, .t 54]),
 (sH 56 (.load false 1) [.t 55]),
 (sC 57 49 [.t 56]),
 (sM 6 57)])
 (.ret [6])))
 (.seq
 (.ops [
 (sP 59 (.bin .eql .int) [.t 21, .c (.int .i64 3)]),
 (sM 58 59)])
 (.cond (.t 58)
 (.seq
 (.ops [
 (sP 60 (.faddr 1) [.t 3]),
 (sH 61 (.load false 1) [.t 60]),
 (sP 62 .len [.t 61]),
 (sP 63 (.bin .geq .ifc) [.t 62, .c (.int .i64 1)]),
 (sM 64 63),
 (sG (sP 65 (.faddr 1) [.t 3]) 64 true),
 (sG (sH 66 (.load false 1) [.t 65]) 64 true),
 (sG (sP 67 .len [.t 66]) 64 true),
 (sG (sP 68 (.bin .leq .ifc) [.t 67, .c (.int .i64 32)]) 64 true),
 (sP 69 .pick [.t 64, .t 68, .c (.bool false)]),
 (sM 6 69)])
 (.ret [6]))
 (.seq
 (.ops [
 (sP 71 (.bin .eql .int) [.t 21, .c (.int .i64 4)]),
 (sM 70 71)])
 (.cond (.t 70)
 (.seq
 (.ops [
 (sP 72 (.faddr 1) [.t 3]),
 (sH 73 (.load false 1) [.t 72]),
 (sM 74 2),
 (sP 75 (.iaddr 3) [.t 73, .t 74]),
 (sH 76 (.load true 3) [.t 75]),
 (sH 8 (.newl 8 [(.int .i64 0), (.int .i64 0), (.int .i64 0)]) []),
 (sHn (.store 3) [.t 8, .t 76])])
 (.seq
 (.ops [
 (sH 77 (.load true 10) [.t 3]),
 (sP 78 (.faddr 1) [.t 8]),
 (sH 79 (.load false 1) [.t 78]),
 (sC 80 50 [.t 77, .t 79]),
 (sM 81 80),
 (sG (sH 82 (.load true 10) [.t 3]) 81 true),
 (sG (sP 83 (.faddr 2) [.t 8]) 81 true),
 (sG (sH 84 (.load false 1) [.t 83]) 81 true),
 (sG (sC 85 50 [.t 82, .t 84]) 81 true),
 (sP 86 .pick [.t 81, .t 85, .c (.bool false)]),
 (sM 87 86),
 (sG (sP 88 (.faddr 0) [.t 3]) 87 true),
 (sG (sH 89 (.load false 1) [.t 88]) 87 true),
 (sG (sP 90 (.faddr 1) [.t 8]) 87 true),
 (sG (sH 91 (.load false 1) [.t 90]) 87 true),
 (sG (sP 92 (.iaddr 1) [.t 89, .t 91]) 87 true),
 (sG (sH 93 (.load false 1) [.t 92]) 87 true),
 (sG (sP 94 (.faddr 0) [.t 3]) 87 true),
 (sG (sH 95 (.load false 1) [.t 94]) 87 true),
 (sG (sP 96 (.faddr 2) [.t 8]) 87 true),
 (sG (sH 97 (.load false 1) [.t 96]) 87 true),
 (sG (sP 98 (.iaddr 1) [.t 95, .t 97]) 87 true),
 (sG (sH 99 (.load false 1) [.t 98]) 87 true),
 (sG (sP 100 (.faddr 0) [.t 8]) 87 true),
 (sG (sH 101 (.load false 1) [.t 100]) 87 true),
 (sG (sC 102 51 [.t 93, .t 99, .t 101]) 87 true),
 (sP 103 .pick [.t 87, .t 102, .c (.bool false)]),
 (sM 6 103)])
 (.ret [6])))
 (.seq
 (.ops [
 (sP 105 (.bin .eql .int) [.t 21, .c (.int .i64 5)]),
 (sM 104 105)])
 (.cond (.t 104)
 (.seq
 (.ops [
 (sP 106 (.faddr 5) [.t 3]),
 (sH 107 (.load false 1) [.t 106]),
 (sP 108 (.bin .geq .ifc) [.t 107, .c (.int .i64 1)]),
 (sM 109 108),
 (sG (sP 110 (.faddr 5) [.t 3]) 109 true),
 (sG (sH 111 (.load false 1) [.t 110]) 109 true),
 (sG (sP 112 (.bin .leq .ifc) [.t 111, .c (.int .i64 10000)]) 109 true),
 (sP 113 .pick [.t 109, .t 112, .c (.bool false)]),
 (sM 6 113)])
 (.ret [6]))
 (.seq
 (.ops [
 (sP 115 (.bin .eql .int) [.t 21, .c (.int .i64 6)]),
 (sM 114 115)])
 (.cond (.t 114)
 (.seq
 (.ops [
 (sP 116 (.faddr 1) [.t 3]),
 (sH 117 (.load false 1) [.t 116]),
 (sM 118 2),
 (sP 119 (.iaddr 3) [.t 117, .t 118]),
 (sP 120 (.faddr 0) [.t 119]),
 (sH 121 (.load false 1) [.t 120]),
 (sP 122 (.faddr 5) [.t 3]),
 (sH 123 (.load false 1) [.t 122]),
 (sP 124 (.bin .geq .ifc) [.t 121, .t 123]),
 (sM 6 124)])
 (.ret [6]))
 (.seq
 (.ops [
 (sP 126 (.bin .eql .int) [.t 21, .c (.int .i64 7)]),
 (sM 125 126)])
 (.cond (.t 125)
 (.seq
 (.ops [
 (sP 127 (.faddr 6) [.t 3]),
 (sH 128 (.load false 1) [.t 127]),
 (sP 129 (.bin .geq .ifc) [.t 128, .c (.int .i64 1)]),
 (sM 130 129),
 (sG (sP 131 (.faddr 6) [.t 3]) 130 true),
 (sG (sH 132 (.load false 1) [.t 131]) 130 true),
 (sG (sP 133 (.bin .leq .ifc) [.t 132, .c (.int .i64 1000)]) 130 true),
 (sP 134 .pick [.t 130, .t 133, .c (.bool false)]),
 (sM 135 134),
 (sG (sP 136 (.faddr 7) [.t 3]) 135 true),
 (sG (sH 137 (.load false 1) [.t 136]) 135 true),
 (sG (sP 138 (.bin .geq .ifc) [.t 137, .c (.int .i64 1)]) 135 true),
 (sP 139 .pick [.t 135, .t 138, .c (.bool false)]),
 (sM 140 139),
 (sG (sP 141 (.faddr 7) [.t 3]) 140 true),
 (sG (sH 142 (.load false 1) [.t 141]) 140 true),
 (sG (sP 143 (.bin .leq .ifc) [.t 142, .c (.int .i64 1000)]) 140 true),
 (sP 144 .pick [.t 140, .t 143, .c (.bool false)]),
 (sM 145 144),
 (sG (sP 146 (.faddr 8) [.t 3]) 145 true),
 (sG (sH 147 (.load false 1) [.t 146]) 145 true),
 (sG (sP 148 (.bin .geq .ifc) [.t 147, .c (.int .i64 1)]) 145 true),
 (sP 149 .pick [.t 145, .t 148, .c (.bool false)]),
 (sM 150 149),
 (sG (sP 151 (.faddr 8) [.t 3]) 150 true),
 (sG (sH 152 (.load false 1) [.t 151]) 150 true),
 (sG (sP 153 (.bin .leq .ifc) [.t 152, .c (.int .i64 1000)]) 150 true),
 (sP 154 .pick [.t 150, .t 153, .c (.bool false)]),
 (sM 155 154),
 (sG (sP 156 (.faddr 9) [.t 3]) 155 true),
 (sG (sH 157 (.load false 1) [.t 156]) 155 true),
 (sG (sP 158 (.bin .geq .ifc) [.t 157, .c (.int .i64 0)]) 155 true),
 (sP 159 .pick [.t 155, .t 158, .c (.bool false)]),
 (sM 160 159),
 (sG (sP 161 (.faddr 9) [.t 3]) 160 true),
 (sG (sH 162 (.load false 1) [.t 161]) 160 true),
 (sG (sP 163 (.bin .leq .ifc) [.t 162, .c (.int .i64 1000)]) 160 true),
 (sP 164 .pick [.t 160, .t 163, .c (.bool false)]),
 (sM 6 164)])
 (.ret [6]))
 (.seq
 (.ops [
 (sP 166 (.bin .eql .int) [.t 21, .c (.int .i64 8)]),
 (sM 165 166)])
 (.cond (.t 165)
 (.seq
 (.ops [
 (sH 167 (.load true 10) [.t 3]),
 (sM 168 2),
 (sC 169 32 [.t 167, .t 168]),
 (sP 170 .len [.t 169]),
 (sM 9 170)])
 (.seq
 (.ops [
 (sM 171 9),
 (sP 172 (.bin .geq .ifc) [.t 171, .c (.int .i64 1)]),
 (sM 173 172),
 (sG (sM 174 9) 173 true),
 (sG (sP 175 (.bin .leq .ifc) [.t 174, .c (.int .i64 3)]) 173 true),
 (sP 176 .pick [.t 173, .t 175, .c (.bool false)]),
 (sM 6 176)])
 (.ret [6])))
 (.seq
 (.ops [
 (sP 178 (.bin .eql .int) [.t 21, .c (.int .i64 9)]),
 (sM 177 178)])
 (.cond (.t 177)
 (.seq
 (.ops [
 (sP 179 (.faddr 3) [.t 3]),
 (sH 180 (.load false 1) [.t 179]),
 (sP 181 .len [.t 180]),
 (sP 182 (.bin .leq .ifc) [.t 181, .c (.int .i64 8)]),
 (sM 6 182)])
 (.ret [6]))
 (.seq
 (.ops [
 (sP 184 (.bin .eql .int) [.t 21, .c (.int .i64 10)]),
 (sM 183 184)])
 (.cond (.t 183)
 (.seq
 (.ops [
 (sP 185 (.faddr 3) [.t 3]),
 (sH 186 (.load false 1) [.t 185]),
 (sM 187 2),
 (sP 188 (.iaddr 4) [.t 186, .t 187]),
 (sH 189 (.load true 4) [.t 188]),
 (sH 10 (.newl 10 [(.int .i64 0), (.int .i64 0), (.int .i64 0), (.int .i64 0)]) []),
 (sHn (.store 4) [.t 10, .t 189])])
 (.seq
 (.ops [
 (sH 190 (.load true 10) [.t 3]),
 (sP 191 (.faddr 0) [.t 10]),
 (sH 192 (.load false 1) [.t 191]),
 (sC 193 32 [.t 190, .t 192]),
 (sM 11 193)])
 (.seq
 (.seq
 (.ops [
 (sH 194 (.load true 10) [.t 3]),
 (sP 195 (.faddr 0) [.t 10]),
 (sH 196 (.load false 1) [.t 195]),
 (sC 197 50 [.t 194, .t 196]),
 (sP 198 (.un .not) [.t 197]),
 (sM 199 198),
 (sG (sM 200 11) 199 false),
 (sG (sP 201 .len [.t 200]) 199 false),
 (sG (sP 202 (.bin .neq .int) [.t 201, .c (.int .i64 3)]) 199 false),
 (sP 203 .pick [.t 199, .c (.bool true), .t 202]),
 (sM 204 203),
 (sG (sP 205 (.faddr 1) [.t 10]) 204 false),
 (sG (sH 206 (.load false 1) [.t 205]) 204 false),
 (sG (sP 207 (.faddr 2) [.t 10]) 204 false),
 (sG (sH 208 (.load false 1) [.t 207]) 204 false),
 (sG (sP 209 (.bin .eql .int) [.t 206, .t 208]) 204 false),
 (sP 210 .pick [.t 204, .c (.bool true), .t 209]),
 (sM 211 210),
 (sG (sP 212 (.faddr 1) [.t 10]) 211 false),
 (sG (sH 213 (.load false 1) [.t 212]) 211 false),
 (sG (sP 214 (.faddr 3) [.t 10]) 211 false),
 (sG (sH 215 (.load false 1) [.t 214]) 211 false),
 (sG (sP 216 (.bin .eql .int) [.t 213, .t 215]) 211 false),
 (sP 217 .pick [.t 211, .c (.bool true), .t 216]),
 (sM 218 217),
 (sG (sP 219 (.faddr 2) [.t 10]) 218 false),
 (sG (sH 220 (.load false 1) [.t 219]) 218 false),
 (sG (sP 221 (.faddr 3) [.t 10]) 218 false),
 (sG (sH 222 (.load false 1) [.t 221]) 218 false),
 (sG (sP 223 (.bin .eql .int) [.t 220, .t 222]) 218 false),
 (sP 224 .pick [.t 218, .c (.bool true), .t 223])])
 (.cond (.t 224)
 (.seq
 (.ops [
 (sP 6 .mov [.c (.bool false)])])
 (.ret [6]))
 .skip))
 (.seq
 (.seq
 (.ops [
 (sP 12 .mov [.c (.int .i64 0)])])
 r06_holds_L3)
 (.seq
 (.ops [
 (sM 250 11),
 (sP 251 (.iaddr 2) [.t 250, .c (.int .i64 0)]),
 (sP 252 (.faddr 0) [.t 251]),
 (sH 253 (.load false 1) [.t 252]),
 (sM 254 11),
 (sP 255 (.iaddr 2) [.t 254, .c (.int .i64 1)]),
 (sP 256 (.faddr 0) [.t 255]),
 (sH 257 (.load false 1) [.t 256]),
 (sP 258 (.bin .neq .int) [.t 253, .t 257]),
 (sM 259 258),
 (sG (sM 260 11) 259 true),
 (sG (sP 261 (.iaddr 2) [.t 260, .c (.int .i64 1)]) 259 true),
 (sG (sP 262 (.faddr 0) [.t 261]) 259 true),
 (sG (sH 263 (.load false 1) [.t 262]) 259 true),
 (sG (sM 264 11) 259 true),
 (sG (sP 265 (.iaddr 2) [.t 264, .c (.int .i64 2)]) 259 true),
 (sG (sP 266 (.faddr 0) [.t 265]) 259 true),
 (sG (sH 267 (.load false 1) [.t 266]) 259 true),
 (sG (sP 268 (.bin .neq .int) [.t 263, .t 267]) 259 true),
 (sP 269 .pick [.t 259, .t 268, .c (.bool false)]),
 (sM 6 269)])
 (.ret [6]))))))
 (.seq
 (.ops [
 (sP 271 (.bin .eql .int) [.t 21, .c (.int .i64 11)]),
 (sM 270 271)])
 (.cond (.t 270)
 (.seq
 (.ops [
 (sP 14 .mov [.c (.int .i64 0)])])
 (.seq
 (.seq
 (.ops [
 (sP 15 .mov [.c (.int .i64 0)])])
 r06_holds_L5)
 (.seq
 (.ops [
 (sH 289 (.load true 10) [.t 3]),
 (sM 290 2),
 (sC 291 32 [.t 289, .t 290]),
 (sP 292 .len [.t 291]),
 (sP 293 (.bin .eql .int) [.t 292, .c (.int .i64 3)]),
 (sM 294 293),
 (sG (sM 295 14) 294 true),
 (sG (sP 296 (.bin .eql .int) [.t 295, .c (.int .i64 1)]) 294 true),
 (sP 297 .pick [.t 294, .t 296, .c (.bool false)]),
 (sM 298 297),
 (sG (sH 299 (.load true 10) [.t 3]) 298 false),
 (sG (sM 300 2) 298 false),
 (sG (sC 301 32 [.t 299, .t 300]) 298 false),
 (sG (sP 302 .len [.t 301]) 298 false),
 (sG (sP 303 (.bin .neq .int) [.t 302, .c (.int .i64 3)]) 298 false),
 (sG (sM 304 303) 298 false),
 (sG (sM 305 14) 304 true),
 (sG (sP 306 (.bin .eql .int) [.t 305, .c (.int .i64 0)]) 304 true),
 (sG (sP 307 .pick [.t 304, .t 306, .c (.bool false)]) 298 false),
 (sP 308 .pick [.t 298, .c (.bool true), .t 307]),
 (sM 6 308)])
 (.ret [6]))))
 (.seq
 (.ops [
 (sP 310 (.bin .eql .int) [.t 21, .c (.int .i64 12)]),
 (sM 309 310)])
 (.cond (.t 309)
 (.seq
 (.ops [
 (sH 311 (.load true 10) [.t 3]),
 (sM 312 2),
 (sC 313 32 [.t 311, .t 312]),
 (sM 16 313)])
 (.seq
 (.seq
 (.ops [
 (sM 314 16),
 (sP 315 .len [.t 314]),
 (sP 316 (.bin .eql .int) [.t 315, .c (.int .i64 3)])])
 (.cond (.t 316)
 (.seq
 (.ops [
 (sP 317 (.faddr 3) [.t 3]),
 (sL 318 3 (.load false 1) [.t 317]),
 (sL 319 3 (.load true 10) [.t 3]),
 (sM 320 2),
 (sCb 321 30 [.t 319, .t 320]),
 (sP 322 (.iaddr 4) [.t 318, .t 321]),
 (sB 323 (.load true 4) [.t 322]),
 (sH 17 (.newl 17 [(.int .i64 0), (.int .i64 0), (.int .i64 0), (.int .i64 0)]) []),
 (sLn 17 (.store 4) [.t 17, .t 323])])
 (.seq
 (.ops [
 (sH 324 (.load true 10) [.t 3]),
 (sP 325 (.faddr 1) [.t 17]),
 (sH 326 (.load false 1) [.t 325]),
 (sP 327 (.faddr 2) [.t 17]),
 (sH 328 (.load false 1) [.t 327]),
 (sM 329 2),
 (sC 330 52 [.t 324, .t 326, .t 328, .t 329]),
 (sM 331 330),
 (sG (sH 332 (.load true 10) [.t 3]) 331 true),
 (sG (sP 333 (.faddr 1) [.t 17]) 331 true),
 (sG (sH 334 (.load false 1) [.t 333]) 331 true),
 (sG (sP 335 (.faddr 3) [.t 17]) 331 true),
 (sG (sH 336 (.load false 1) [.t 335]) 331 true),
 (sG (sM 337 2) 331 true),
 (sG (sC 338 52 [.t 332, .t 334, .t 336, .t 337]) 331 true),
 (sP 339 .pick [.t 331, .t 338, .c (.bool false)]),
 (sM 6 339)])
 (.ret [6])))
 .skip))
 (.seq
 (.ops [
 (sM 340 16),
 (sP 341 .len [.t 340]),
 (sP 342 (.bin .lss .ifc) [.t 341, .c (.int .i64 2)]),
 (sM 343 342),
 (sG (sH 344 (.load true 10) [.t 3]) 343 false),
 (sG (sM 345 16) 343 false),
 (sG (sP 346 (.iaddr 2) [.t 345, .c (.int .i64 0)]) 343 false),
 (sG (sP 347 (.faddr 0) [.t 346]) 343 false),
 (sG (sH 348 (.load false 1) [.t 347]) 343 false),
 (sG (sM 349 16) 343 false),
 (sG (sP 350 (.iaddr 2) [.t 349, .c (.int .i64 1)]) 343 false),
 (sG (sP 351 (.faddr 0) [.t 350]) 343 false),
 (sG (sH 352 (.load false 1) [.t 351]) 343 false),
 (sG (sM 353 2) 343 false),
 (sG (sC 354 52 [.t 344, .t 348, .t 352, .t 353]) 343 false),
 (sP 355 .pick [.t 343, .c (.bool true), .t 354]),
 (sM 6 355)])
 (.ret [6]))))
 (.seq
 (.ops [
 (sP 357 (.bin .eql .int) [.t 21, .c (.int .i64 13)]),
 (sM 356 357)])
 (.cond (.t 356)
 (.seq
 (.ops [
 (sP 358 (.faddr 2) [.t 3]),
 (sH 359 (.load false 1) [.t 358]),
 (sP 360 .len [.t 359]),
 (sP 361 (.bin .geq .ifc) [.t 360, .c (.int .i64 1)]),
 (sM 362 361),
 (sG (sP 363 (.faddr 2) [.t 3]) 362 true),
 (sG (sH 364 (.load false 1) [.t 363]) 362 true),
 (sG (sP 365 .len [.t 364]) 362 true),
 (sG (sP 366 (.bin .leq .ifc) [.t 365, .c (.int .i64 16)]) 362 true),
 (sP 367 .pick [.t 362, .t 366, .c (.bool false)]),
 (sM 6 367)])
 (.ret [6]))
 (.seq
 (.ops [
 (sP 369 (.bin .eql .int) [.t 21, .c (.int .i64 14)]),
 (sM 368 369)])
 (.cond (.t 368)
 (.seq
 (.ops [
 (sP 18 .mov [.c (.int .i64 0)])])
 (.seq
 (.seq
 (.ops [
 (sP 19 .mov [.c (.int .i64 0)])])
 r06_holds_L7)
 (.seq
 (.ops [
 (sM 399 18),
 (sP 400 (.bin .eql .int) [.t 399, .c (.int .i64 1)]),
 (sM 6 400)])
 (.ret [6]))))
 .skip))))))))))))))))))))))))))))))
 (.seq
 (.ops [
 (sP 401 (.faddr 4) [.t 3]),
 (sH 402 (.load false 1) [.t 401]),
 (sP 403 .len [.t 402]),
 (sP 404 (.bin .leq .ifc) [.t 403, .c (.int .i64 16)]),
 (sM 6 404)])
 (.ret [6]))))
def r06_holds_I : FInfo := ⟨(.fz false), 3, r06_holds_C, [.tmp 6]⟩
def r06_holds_A : Ann := ⟨[], [], [(1, [2, 3, 7], [2, 3]), (3, [10, 11, 12], [11]), (5, [2, 3, 14, 15], [2, 3, 14]), (7, [2, 3, 18, 19], [18]), (9, [2, 3, 18, 19, 20], [2, 3, 18, 19])], [(0, [3]), (2, [2, 3, 7]), (4, [10, 11, 12]), (6, [2, 3, 14, 15]), (8, [2, 3, 18, 19]), (10, [2, 3, 18, 19, 20])], [3, 8, 10, 17]⟩
abbrev n_r06_holds : Nat := 27

/-! ### balise/baliseref06.part -/
def r06_part_B0 : CCode :=
 (.seq
 (.seq
 (.ops [
 (sM 32 9),
 (sP 33 (.faddr 2) [.t 3]),
 (sH 34 (.load false 1) [.t 33]),
 (sM 35 2),
 (sP 36 (.iaddr 1) [.t 34, .t 35]),
 (sH 37 (.load false 1) [.t 36]),
 (sP 38 .len [.t 37]),
 (sP 39 (.bin .lss .ifc) [.t 32, .t 38])])
 (.cond (.t 39)
 .skip
 (.exit 0)))
 (.seq
 (.block 1 (some [2, 3, 9])
 (.seq
 (.ops [
 (sP 42 (.faddr 2) [.t 3]),
 (sH 43 (.load false 1) [.t 42]),
 (sM 44 2),
 (sP 45 (.iaddr 1) [.t 43, .t 44]),
 (sH 46 (.load false 1) [.t 45]),
 (sM 47 9),
 (sP 48 (.iaddr 1) [.t 46, .t 47]),
 (sH 49 (.load false 1) [.t 48]),
 (sP 50 (.bin .lss .ifc) [.t 49, .c (.int .i64 0)]),
 (sM 51 50),
 (sG (sP 52 (.faddr 2) [.t 3]) 51 false),
 (sG (sH 53 (.load false 1) [.t 52]) 51 false),
 (sG (sM 54 2) 51 false),
 (sG (sP 55 (.iaddr 1) [.t 53, .t 54]) 51 false),
 (sG (sH 56 (.load false 1) [.t 55]) 51 false),
 (sG (sM 57 9) 51 false),
 (sG (sP 58 (.iaddr 1) [.t 56, .t 57]) 51 false),
 (sG (sH 59 (.load false 1) [.t 58]) 51 false),
 (sG (sP 60 (.faddr 1) [.t 3]) 51 false),
 (sG (sH 61 (.load false 1) [.t 60]) 51 false),
 (sG (sP 62 .len [.t 61]) 51 false),
 (sG (sP 63 (.bin .geq .ifc) [.t 59, .t 62]) 51 false),
 (sP 64 .pick [.t 51, .c (.bool true), .t 63])])
 (.cond (.t 64)
 (.seq
 (.ops [
 (sP 6 .mov [.c (.bool false)])])
 (.ret [6]))
 .skip)))
 (.ops [
 (sM 40 9),
 (sP 41 (.bin .add .ifc) [.t 40, .c (.int .i64 1)]),
 (sM 9 41)])))
def r06_part_L0 : CCode := .bloop 0 [2, 3, 9] [2, 3] r06_part_B0
def r06_part_C : CCode :=
 (.seq
 (.ops [
 (sH 3 (.box 3) [.t 0]),
 (sP 6 .mov [.c (.bool false)])])
 (.seq
 (.seq
 (.ops [
 (sM 10 1),
 (sP 11 (.bin .eql .int) [.t 10, .c (.int .i64 15)])])
 (.cond (.t 11)
 (.seq
 (.ops [
 (sH 13 (.load true 10) [.t 3]),
 (sP 14 (.faddr 4) [.t 3]),
 (sH 15 (.load false 1) [.t 14]),
 (sM 16 2),
 (sP 17 (.iaddr 1) [.t 15, .t 16]),
 (sH 18 (.load false 1) [.t 17]),
 (sC 19 53 [.t 13, .t 18]),
 (sM 12 19),
 (sP 20 (.ext 0) [.t 12]),
 (sP 21 (.ext 1) [.t 12]),
 (sM 7 20),
 (sM 8 21)])
 (.seq
 (.ops [
 (sM 22 8),
 (sM 23 22),
 (sG (sP 24 (.faddr 4) [.t 3]) 23 true),
 (sG (sH 25 (.load false 1) [.t 24]) 23 true),
 (sG (sM 26 2) 23 true),
 (sG (sP 27 (.iaddr 1) [.t 25, .t 26]) 23 true),
 (sG (sH 28 (.load false 1) [.t 27]) 23 true),
 (sG (sP 29 .len [.t 28]) 23 true),
 (sG (sP 30 (.bin .leq .ifc) [.t 29, .c (.int .i64 12)]) 23 true),
 (sP 31 .pick [.t 23, .t 30, .c (.bool false)]),
 (sM 6 31)])
 (.ret [6])))
 .skip))
 (.seq
 (.seq
 (.ops [
 (sP 9 .mov [.c (.int .i64 0)])])
 r06_part_L0)
 (.seq
 (.ops [
 (sP 65 (.faddr 2) [.t 3]),
 (sH 66 (.load false 1) [.t 65]),
 (sM 67 2),
 (sP 68 (.iaddr 1) [.t 66, .t 67]),
 (sH 69 (.load false 1) [.t 68]),
 (sP 70 .len [.t 69]),
 (sP 71 (.bin .gtr .ifc) [.t 70, .c (.int .i64 0)]),
 (sM 6 71)])
 (.ret [6])))))
def r06_part_I : FInfo := ⟨(.fz false), 3, r06_part_C, [.tmp 6]⟩
def r06_part_A : Ann := ⟨[], [], [(0, [2, 3, 9], [2, 3])], [(1, [2, 3, 9])], [3]⟩
abbrev n_r06_part : Nat := 28

/-! ### balise/baliseref06.node -/
def r06_node_C : CCode :=
 (.seq
 (.ops [
 (sH 2 (.box 2) [.t 0]),
 (sP 4 .mov [.c (.bool false)])])
 (.seq
 (.ops [
 (sM 5 1),
 (sP 6 (.bin .geq .ifc) [.t 5, .c (.int .i64 0)]),
 (sM 7 6),
 (sG (sM 8 1) 7 true),
 (sG (sP 9 (.faddr 0) [.t 2]) 7 true),
 (sG (sH 10 (.load false 1) [.t 9]) 7 true),
 (sG (sP 11 .len [.t 10]) 7 true),
 (sG (sP 12 (.bin .lss .ifc) [.t 8, .t 11]) 7 true),
 (sP 13 .pick [.t 7, .t 12, .c (.bool false)]),
 (sM 4 13)])
 (.ret [4])))
def r06_node_I : FInfo := ⟨(.fz false), 2, r06_node_C, [.tmp 4]⟩
def r06_node_A : Ann := ⟨[], [], [], [], [2]⟩
abbrev n_r06_node : Nat := 50

/-! ### balise/baliseref06.on -/
def r06_on_C : CCode :=
 (.seq
 (.ops [
 (sH 4 (.box 4) [.t 0]),
 (sP 8 .mov [.c (.bool false)])])
 (.seq
 (.ops [
 (sH 12 (.load true 10) [.t 4]),
 (sM 13 1),
 (sM 14 3),
 (sC 15 70 [.t 12, .t 13, .t 14]),
 (sP 16 (.faddr 0) [.t 4]),
 (sH 17 (.load false 1) [.t 16]),
 (sM 18 3),
 (sP 19 (.iaddr 1) [.t 17, .t 18]),
 (sH 20 (.load false 1) [.t 19]),
 (sH 21 (.load true 10) [.t 4]),
 (sM 22 2),
 (sM 23 3),
 (sC 24 70 [.t 21, .t 22, .t 23]),
 (sM 9 15),
 (sM 10 20),
 (sM 11 24)])
 (.seq
 (.ops [
 (sM 25 10),
 (sM 26 9),
 (sP 27 (.bin .sub .ifc) [.t 25, .t 26]),
 (sM 28 11),
 (sM 29 10),
 (sP 30 (.bin .sub .ifc) [.t 28, .t 29]),
 (sC 31 18 [.t 27, .t 30]),
 (sP 32 (.bin .gtr .ifc) [.t 31, .c (.int .i64 0)]),
 (sM 8 32)])
 (.ret [8]))))
def r06_on_I : FInfo := ⟨(.fz false), 4, r06_on_C, [.tmp 8]⟩
def r06_on_A : Ann := ⟨[], [], [], [], [4]⟩
abbrev n_r06_on : Nat := 52

/-! ### balise/baliseref06.other -/
def r06_other_C : CCode :=
 (.seq
 (.ops [
 (sH 3 (.box 3) [.t 0]),
 (sP 6 .mov [.c (.cplx .f64 0 0)])])
 (.seq
 (.ops [
 (sP 8 (.faddr 1) [.t 3]),
 (sH 9 (.load false 1) [.t 8]),
 (sM 10 1),
 (sP 11 (.iaddr 3) [.t 9, .t 10]),
 (sH 12 (.load true 3) [.t 11]),
 (sH 7 (.newl 7 [(.int .i64 0), (.int .i64 0), (.int .i64 0)]) []),
 (sHn (.store 3) [.t 7, .t 12])])
 (.seq
 (.seq
 (.ops [
 (sP 13 (.faddr 1) [.t 7]),
 (sH 14 (.load false 1) [.t 13]),
 (sM 15 2),
 (sP 16 (.bin .eql .int) [.t 14, .t 15])])
 (.cond (.t 16)
 (.seq
 (.ops [
 (sP 17 (.faddr 0) [.t 3]),
 (sH 18 (.load false 1) [.t 17]),
 (sP 19 (.faddr 2) [.t 7]),
 (sH 20 (.load false 1) [.t 19]),
 (sP 21 (.iaddr 1) [.t 18, .t 20]),
 (sH 22 (.load false 1) [.t 21]),
 (sM 6 22)])
 (.ret [6]))
 .skip))
 (.seq
 (.ops [
 (sP 23 (.faddr 0) [.t 3]),
 (sH 24 (.load false 1) [.t 23]),
 (sP 25 (.faddr 1) [.t 7]),
 (sH 26 (.load false 1) [.t 25]),
 (sP 27 (.iaddr 1) [.t 24, .t 26]),
 (sH 28 (.load false 1) [.t 27]),
 (sM 6 28)])
 (.ret [6])))))
def r06_other_I : FInfo := ⟨(.fz false), 3, r06_other_C, [.tmp 6]⟩
def r06_other_A : Ann := ⟨[], [], [], [], [3, 7]⟩
abbrev n_r06_other : Nat := 70

/-! ### balise/baliseref05.Path -/
def r05_Path_B0 : CCode :=
 (.seq
 (.seq
 (.ops [
 (sM 20 6),
 (sP 21 (.bin .lss .ifc) [.t 20, .c (.int .i64 2)])])
 (.cond (.t 21)
 .skip
 (.exit 0)))
 (.seq
 (.block 1 (some [1, 2, 6])
 (.seq
 (.ops [
 (sH 25 (.load true 10) [.t 2]),
 (sM 26 1),
 (sP 27 (.iaddr 1) [.t 26, .c (.int .i64 0)]),
 (sH 28 (.load false 1) [.t 27]),
 (sM 29 6),
 (sP 30 (.bld [(.int .i64 0), (.int .i64 0)] [(0, 1), (1, 1)]) [.t 28, .t 29]),
 (sM 31 1),
 (sP 32 (.slc 1 true false) [.t 31, .c (.int .i64 1)]),
 (sC 33 71 [.t 25, .t 30, .t 32]),
 (sM 24 33),
 (sP 34 (.ext 0) [.t 24]),
 (sP 35 (.ext 1) [.t 24]),
 (sM 7 34),
 (sM 8 35)])
 (.seq
 (.ops [
 (sM 36 8)])
 (.cond (.t 36)
 (.seq
 (.ops [
 (sM 37 7),
 (sM 4 37),
 (sP 5 .mov [.c (.bool true)])])
 (.ret [4, 5]))
 .skip))))
 (.ops [
 (sM 22 6),
 (sP 23 (.bin .add .ifc) [.t 22, .c (.int .i64 1)]),
 (sM 6 23)])))
def r05_Path_L0 : CCode := .bloop 0 [1, 2, 6] [] r05_Path_B0
def r05_Path_C : CCode :=
 (.seq
 (.ops [
 (sH 2 (.box 2) [.t 0]),
 (sP 4 .mov [.c .nils]),
 (sP 5 .mov [.c (.bool false)])])
 (.seq
 (.seq
 (.ops [
 (sM 9 1),
 (sP 10 .len [.t 9]),
 (sP 11 (.bin .lss .ifc) [.t 10, .c (.int .i64 2)]),
 (sM 12 11),
 (sG (sM 13 1) 12 false),
 (sG (sC 14 16 [.t 13]) 12 false),
 (sG (sP 15 .len [.t 14]) 12 false),
 (sG (sM 16 1) 12 false),
 (sG (sP 17 .len [.t 16]) 12 false),
 (sG (sP 18 (.bin .neq .int) [.t 15, .t 17]) 12 false),
 (sP 19 .pick [.t 12, .c (.bool true), .t 18])])
 (.cond (.t 19)
 (.seq
 (.ops [
 (sP 4 .mov [.c .nils]),
 (sP 5 .mov [.c (.bool false)])])
 (.ret [4, 5]))
 .skip))
 (.seq
 (.seq
 (.ops [
 (sP 6 .mov [.c (.int .i64 0)])])
 r05_Path_L0)
 (.seq
 (.ops [
 (sP 4 .mov [.c .nils]),
 (sP 5 .mov [.c (.bool false)])])
 (.ret [4, 5])))))
def r05_Path_I : FInfo := ⟨(.fz false), 2, r05_Path_C, [.tmp 4, .tmp 5]⟩
def r05_Path_A : Ann := ⟨[], [], [(0, [1, 2, 6], [])], [(1, [1, 2, 6])], [2]⟩
abbrev n_r05_Path : Nat := 53

/-! ### balise/baliseref05.way -/
def r05_way_B2 : CCode :=
 (.seq
 (.seq
 (.ops [
 (sM 25 11),
 (sM 26 10),
 (sP 27 .len [.t 26]),
 (sP 28 (.bin .lss .ifc) [.t 25, .t 27]),
 (sM 29 28),
 (sG (sM 30 10) 29 true),
 (sG (sM 31 11) 29 true),
 (sG (sP 32 (.iaddr 2) [.t 30, .t 31]) 29 true),
 (sG (sP 33 (.faddr 0) [.t 32]) 29 true),
 (sG (sH 34 (.load false 1) [.t 33]) 29 true),
 (sG (sM 35 2) 29 true),
 (sG (sM 36 9) 29 true),
 (sG (sP 37 (.iaddr 1) [.t 35, .t 36]) 29 true),
 (sG (sH 38 (.load false 1) [.t 37]) 29 true),
 (sG (sP 39 (.bin .neq .int) [.t 34, .t 38]) 29 true),
 (sP 40 .pick [.t 29, .t 39, .c (.bool false)])])
 (.cond (.t 40)
 .skip
 (.exit 2)))
 (.block 3 (some [2, 3, 4, 8, 9, 10, 11])
 (.ops [
 (sM 41 11),
 (sP 42 (.bin .add .ifc) [.t 41, .c (.int .i64 1)]),
 (sM 11 42)])))
def r05_way_L2 : CCode := .bloop 2 [2, 3, 4, 8, 9, 10, 11] [2, 3, 4, 8, 9, 10, 11] r05_way_B2

def r05_way_B0 : CCode :=
 (.seq
 (.seq
 (.ops [
 (sM 16 9),
 (sM 17 2),
 (sP 18 .len [.t 17]),
 (sP 19 (.bin .lss .ifc) [.t 16, .t 18])])
 (.cond (.t 19)
 .skip
 (.exit 0)))
 (.seq
 (.block 1 (some [2, 3, 4, 8, 9])
 (.seq
 (.ops [
 (sH 22 (.load true 10) [.t 3]),
 (sH 23 (.load true 2) [.t 4]),
 (sC 24 20 [.t 22, .t 23]),
 (sM 10 24)])
 (.seq
 (.ops [
 (sP 11 .mov [.c (.int .i64 0)])])
 (.seq
 r05_way_L2
 (.seq
 (.seq
 (.ops [
 (sM 43 11),
 (sM 44 10),
 (sP 45 .len [.t 44]),
 (sP 46 (.bin .eql .int) [.t 43, .t 45])])
 (.cond (.t 46)
 (.seq
 (.ops [
 (sP 6 .mov [.c .nils]),
 (sP 7 .mov [.c (.bool false)])])
 (.ret [6, 7]))
 .skip))
 (.seq
 (.ops [
 (sH 48 (.load true 10) [.t 3]),
 (sH 49 (.load true 2) [.t 4]),
 (sC 50 29 [.t 48, .t 49]),
 (sM 47 50),
 (sP 51 (.ext 0) [.t 47]),
 (sP 52 (.ext 1) [.t 47]),
 (sM 12 51),
 (sM 13 52)])
 (.seq
 (.ops [
 (sH 53 (.load true 10) [.t 3]),
 (sM 54 12),
 (sC 55 30 [.t 53, .t 54]),
 (sM 14 55)])
 (.seq
 (.seq
 (.ops [
 (sM 56 14),
 (sP 57 (.bin .geq .ifc) [.t 56, .c (.int .i64 0)])])
 (.cond (.t 57)
 (.seq
 (.ops [
 (sM 58 2),
 (sM 59 9),
 (sP 60 (.iaddr 1) [.t 58, .t 59]),
 (sH 61 (.load false 1) [.t 60]),
 (sM 15 61)])
 (.seq
 (.seq
 (.ops [
 (sM 62 15),
 (sP 63 (.faddr 3) [.t 3]),
 (sH 64 (.load false 1) [.t 63]),
 (sM 65 14),
 (sP 66 (.iaddr 4) [.t 64, .t 65]),
 (sP 67 (.faddr 1) [.t 66]),
 (sH 68 (.load false 1) [.t 67]),
 (sP 69 (.bin .eql .int) [.t 62, .t 68])])
 (.cond (.t 69)
 (.ops [
 (sP 70 (.faddr 0) [.t 4]),
 (sH 71 (.load false 1) [.t 70]),
 (sM 15 71)])
 .skip))
 (.ops [
 (sM 72 8),
 (sM 73 14),
 (sP 74 (.faddr 3) [.t 3]),
 (sH 75 (.load false 1) [.t 74]),
 (sM 76 14),
 (sP 77 (.iaddr 4) [.t 75, .t 76]),
 (sP 78 (.faddr 3) [.t 77]),
 (sH 79 (.load false 1) [.t 78]),
 (sM 80 15),
 (sP 81 (.bin .eql .int) [.t 79, .t 80]),
 (sP 82 (.bld [(.int .i64 0), (.bool false)] [(0, 1), (1, 1)]) [.t 73, .t 81]),
 (sH 83 (.bslF 2 1 [(.int .i64 0), (.bool false)] [(0, 2)]) [.t 82]),
 (sH 84 (.app 2 16 [(.int .i64 0), (.bool false)]) [.t 72, .t 83]),
 (sM 8 84)])))
 .skip))
 (.ops [
 (sM 85 2),
 (sM 86 9),
 (sP 87 (.iaddr 1) [.t 85, .t 86]),
 (sH 88 (.load false 1) [.t 87]),
 (sM 89 10),
 (sM 90 11),
 (sP 91 (.iaddr 2) [.t 89, .t 90]),
 (sP 92 (.faddr 1) [.t 91]),
 (sH 93 (.load false 1) [.t 92]),
 (sP 94 (.bin .sub .ifc) [.c (.int .i64 1), .t 93]),
 (sP 95 (.bld [(.int .i64 0), (.int .i64 0)] [(0, 1), (1, 1)]) [.t 88, .t 94]),
 (sHn (.store 2) [.t 4, .t 95])])))))))))
 (.ops [
 (sM 20 9),
 (sP 21 (.bin .add .ifc) [.t 20, .c (.int .i64 1)]),
 (sM 9 21)])))
def r05_way_L0 : CCode := .bloop 0 [2, 3, 4, 8, 9] [8] r05_way_B0
def r05_way_C : CCode :=
 (.seq
 (.ops [
 (sH 3 (.box 3) [.t 0]),
 (sH 4 (.box 4) [.t 1]),
 (sP 6 .mov [.c .nils]),
 (sP 7 .mov [.c (.bool false)])])
 (.seq
 (.ops [
 (sP 8 .mov [.c .nils])])
 (.seq
 (.seq
 (.ops [
 (sP 9 .mov [.c (.int .i64 0)])])
 r05_way_L0)
 (.seq
 (.ops [
 (sM 96 8),
 (sM 6 96),
 (sP 7 .mov [.c (.bool true)])])
 (.ret [6, 7])))))
def r05_way_I : FInfo := ⟨(.fz false), 3, r05_way_C, [.tmp 6, .tmp 7]⟩
def r05_way_A : Ann := ⟨[], [], [(0, [2, 3, 4, 8, 9], [8]), (2, [2, 3, 4, 8, 9, 10, 11], [2, 3, 4, 8, 9, 10, 11])], [(1, [2, 3, 4, 8, 9]), (3, [2, 3, 4, 8, 9, 10, 11])], [3, 4]⟩
abbrev n_r05_way : Nat := 71

/-! ### balise/baliseref04.Small -/
def r04_Small_B0 : CCode :=
 (.seq
 (.seq
 (.ops [
 (sM 4 3),
 (sP 5 (.faddr 8) [.t 1]),
 (sH 6 (.load false 1) [.t 5]),
 (sP 7 .len [.t 6]),
 (sP 8 (.bin .lss .ifc) [.t 4, .t 7])])
 (.cond (.t 8)
 .skip
 (.exit 0)))
 (.seq
 (.block 1 (some [1, 3])
 (.seq
 (.ops [
 (sP 11 (.faddr 8) [.t 1]),
 (sH 12 (.load false 1) [.t 11]),
 (sM 13 3),
 (sP 14 (.iaddr 1) [.t 12, .t 13]),
 (sH 15 (.load false 1) [.t 14]),
 (sP 16 .len [.t 15]),
 (sP 17 (.bin .gtr .ifc) [.t 16, .c (.int .i64 10)])])
 (.cond (.t 17)
 (.seq
 (.ops [
 (sP 2 .mov [.c (.bool false)])])
 (.ret [2]))
 .skip)))
 (.ops [
 (sM 9 3),
 (sP 10 (.bin .add .ifc) [.t 9, .c (.int .i64 1)]),
 (sM 3 10)])))
def r04_Small_L0 : CCode := .bloop 0 [1, 3] [1] r04_Small_B0
def r04_Small_C : CCode :=
 (.seq
 (.ops [
 (sH 1 (.box 1) [.t 0]),
 (sP 2 .mov [.c (.bool false)])])
 (.seq
 (.seq
 (.ops [
 (sP 3 .mov [.c (.int .i64 0)])])
 r04_Small_L0)
 (.seq
 (.ops [
 (sP 18 (.faddr 8) [.t 1]),
 (sH 19 (.load false 1) [.t 18]),
 (sP 20 .len [.t 19]),
 (sP 21 (.bin .leq .ifc) [.t 20, .c (.int .i64 20)]),
 (sM 2 21)])
 (.ret [2]))))
def r04_Small_I : FInfo := ⟨(.fz false), 1, r04_Small_C, [.tmp 2]⟩
def r04_Small_A : Ann := ⟨[], [], [(0, [1, 3], [1])], [(1, [1, 3])], [1]⟩
abbrev n_r04_Small : Nat := 10

/-! ### balise/baliseref05.Full -/
def r05_Full_B0 : CCode :=
 (.seq
 (.seq
 (.ops [
 (sM 9 4),
 (sP 10 (.faddr 8) [.t 1]),
 (sH 11 (.load false 1) [.t 10]),
 (sP 12 .len [.t 11]),
 (sP 13 (.bin .lss .ifc) [.t 9, .t 12]),
 (sM 14 13),
 (sG (sP 15 (.faddr 4) [.t 3]) 14 true),
 (sG (sH 16 (.load false 1) [.t 15]) 14 true),
 (sG (sP 17 .len [.t 16]) 14 true),
 (sG (sP 18 (.bin .lss .ifc) [.t 17, .c (.int .i64 16)]) 14 true),
 (sP 19 .pick [.t 14, .t 18, .c (.bool false)])])
 (.cond (.t 19)
 .skip
 (.exit 0)))
 (.seq
 (.block 1 (some [1, 2, 3, 4])
 (.seq
 (.ops [
 (sP 22 (.faddr 8) [.t 1]),
 (sH 23 (.load false 1) [.t 22]),
 (sM 24 4),
 (sP 25 (.iaddr 1) [.t 23, .t 24]),
 (sH 26 (.load false 1) [.t 25]),
 (sM 5 26)])
 (.seq
 (.seq
 (.ops [
 (sM 27 5),
 (sP 28 .len [.t 27]),
 (sP 29 (.bin .lss .ifc) [.t 28, .c (.int .i64 2)])])
 (.cond (.t 29)
 (.exit 1)
 .skip))
 (.seq
 (.ops [
 (sH 30 (.load true 10) [.t 3]),
 (sM 31 5),
 (sP 32 (.iaddr 1) [.t 31, .c (.int .i64 0)]),
 (sH 33 (.load false 1) [.t 32]),
 (sP 34 (.toInt .i64) [.t 33]),
 (sP 35 (.faddr 1) [.t 3]),
 (sH 36 (.load false 1) [.t 35]),
 (sP 37 .len [.t 36]),
 (sP 38 (.bin .rem .ifc) [.t 34, .t 37]),
 (sM 39 5),
 (sP 40 (.iaddr 1) [.t 39, .c (.int .i64 0)]),
 (sH 41 (.load false 1) [.t 40]),
 (sP 42 (.bin .quo .ifc) [.t 41, .c (.int .u8 128)]),
 (sP 43 (.toInt .i64) [.t 42]),
 (sM 44 5),
 (sP 45 (.slc 1 true false) [.t 44, .c (.int .i64 2)]),
 (sM 46 5),
 (sP 47 (.iaddr 1) [.t 46, .c (.int .i64 1)]),
 (sH 48 (.load false 1) [.t 47]),
 (sP 49 (.bin .rem .ifc) [.t 48, .c (.int .u8 5)]),
 (sP 50 (.toInt .i64) [.t 49]),
 (sP 51 (.bin .add .ifc) [.c (.int .i64 2), .t 50]),
 (sC 52 15 [.t 30, .t 38, .t 43, .t 45, .t 51]),
 (sM 6 52)])
 (.seq
 (.ops [
 (sM 53 6),
 (sP 54 .len [.t 53]),
 (sP 55 (.bin .geq .ifc) [.t 54, .c (.int .i64 2)])])
 (.cond (.t 55)
 (.ops [
 (sP 56 (.faddr 4) [.t 3]),
 (sH 57 (.load false 1) [.t 56]),
 (sM 58 6),
 (sH 59 (.bslF 1 1 [.nils] [(0, 1)]) [.t 58]),
 (sH 60 (.app 1 24 [.nils]) [.t 57, .t 59]),
 (sP 61 (.faddr 4) [.t 3]),
 (sHn (.store 1) [.t 61, .t 60])])
 .skip))))))
 (.ops [
 (sM 20 4),
 (sP 21 (.bin .add .ifc) [.t 20, .c (.int .i64 1)]),
 (sM 4 21)])))
def r05_Full_L0 : CCode := .bloop 0 [1, 2, 3, 4] [2, 3] r05_Full_B0
def r05_Full_C : CCode :=
 (.seq
 (.ops [
 (sH 1 (.box 1) [.t 0]),
 (sH 2 (.newl 2 [.nils, .nils, .nils, .nils, .nils, (.int .i64 0), (.int .i64 0), (.int .i64 0), (.int .i64 0), (.int .i64 0)]) [])])
 (.seq
 (.ops [
 (sH 7 (.load true 9) [.t 1]),
 (sC 8 14 [.t 7]),
 (sH 3 (.newl 3 [.nils, .nils, .nils, .nils, .nils, (.int .i64 0), (.int .i64 0), (.int .i64 0), (.int .i64 0), (.int .i64 0)]) []),
 (sHn (.store 10) [.t 3, .t 8])])
 (.seq
 (.seq
 (.ops [
 (sP 4 .mov [.c (.int .i64 0)])])
 r05_Full_L0)
 (.seq
 (.ops [
 (sH 62 (.load true 10) [.t 3]),
 (sHn (.store 10) [.t 2, .t 62])])
 (.ret [2])))))
def r05_Full_I : FInfo := ⟨(.fz false), 1, r05_Full_C, [.cell 2 true 10]⟩
def r05_Full_A : Ann := ⟨[], [], [(0, [1, 2, 3, 4], [2, 3])], [(1, [1, 2, 3, 4])], [1, 2, 3]⟩
abbrev n_r05_Full : Nat := 11

/-! ### balise/baliseref04.Make -/
def r04_Make_B1 : CCode :=
 (.seq
 (.seq
 (.ops [
 (sM 67 9),
 (sM 68 8),
 (sP 69 (.bin .leq .ifc) [.t 67, .t 68])])
 (.cond (.t 69)
 .skip
 (.exit 1)))
 (.seq
 (.block 2 (some [1, 2, 3, 6, 7, 8, 9])
 (.ops [
 (sP 72 (.faddr 0) [.t 6]),
 (sH 73 (.load false 1) [.t 72]),
 (sM 74 3),
 (sM 75 9),
 (sP 76 (.bin .mul .ifc) [.t 74, .t 75]),
 (sP 77 (.toFloat .f64) [.t 76]),
 (sP 78 .cplx [.t 77, .c (.float .f64 0)]),
 (sH 79 (.bslF 1 1 [(.cplx .f64 0 0)] [(0, 1)]) [.t 78]),
 (sH 80 (.app 1 16 [(.cplx .f64 0 0)]) [.t 73, .t 79]),
 (sP 81 (.faddr 0) [.t 6]),
 (sHn (.store 1) [.t 81, .t 80])]))
 (.ops [
 (sM 70 9),
 (sP 71 (.bin .add .ifc) [.t 70, .c (.int .i64 1)]),
 (sM 9 71)])))
def r04_Make_L1 : CCode := .bloop 1 [1, 2, 3, 6, 7, 8, 9] [1, 2, 3, 6, 7, 8] r04_Make_B1

def r04_Make_B3 : CCode :=
 (.seq
 (.seq
 (.ops [
 (sM 82 10),
 (sM 83 8),
 (sP 84 (.bin .lss .ifc) [.t 82, .t 83])])
 (.cond (.t 84)
 .skip
 (.exit 3)))
 (.seq
 (.block 4 (some [1, 2, 3, 6, 7, 8, 10])
 (.ops [
 (sM 87 7),
 (sM 88 10),
 (sM 89 10),
 (sP 90 (.bin .add .ifc) [.t 89, .c (.int .i64 1)]),
 (sP 91 (.bld [(.int .i64 0), (.int .i64 0)] [(0, 1), (1, 1)]) [.t 88, .t 90]),
 (sH 92 (.bslF 2 1 [(.int .i64 0), (.int .i64 0)] [(0, 2)]) [.t 91]),
 (sH 93 (.app 2 16 [(.int .i64 0), (.int .i64 0)]) [.t 87, .t 92]),
 (sM 7 93)]))
 (.ops [
 (sM 85 10),
 (sP 86 (.bin .add .ifc) [.t 85, .c (.int .i64 1)]),
 (sM 10 86)])))
def r04_Make_L3 : CCode := .bloop 3 [1, 2, 3, 6, 7, 8, 10] [1, 2, 3, 6, 7] r04_Make_B3

def r04_Make_B5 : CCode :=
 (.seq
 (.seq
 (.ops [
 (sM 150 11),
 (sM 151 7),
 (sP 152 .len [.t 151]),
 (sP 153 (.bin .lss .ifc) [.t 150, .t 152])])
 (.cond (.t 153)
 .skip
 (.exit 5)))
 (.seq
 (.block 6 (some [1, 2, 3, 6, 7, 11])
 (.ops [
 (sP 156 (.faddr 1) [.t 6]),
 (sH 157 (.load false 1) [.t 156]),
 (sM 158 3),
 (sP 159 (.bin .mul .ifc) [.c (.int .i64 2), .t 158]),
 (sM 160 11),
 (sP 161 (.bin .rem .ifc) [.t 160, .c (.int .i64 3)]),
 (sP 162 (.bin .add .ifc) [.t 159, .t 161]),
 (sM 163 7),
 (sM 164 11),
 (sP 165 (.iaddr 2) [.t 163, .t 164]),
 (sP 166 (.iaddrA 2 1) [.t 165, .c (.int .i64 0)]),
 (sH 167 (.load false 1) [.t 166]),
 (sM 168 7),
 (sM 169 11),
 (sP 170 (.iaddr 2) [.t 168, .t 169]),
 (sP 171 (.iaddrA 2 1) [.t 170, .c (.int .i64 1)]),
 (sH 172 (.load false 1) [.t 171]),
 (sP 173 (.bld [(.int .i64 0), (.int .i64 0), (.int .i64 0)] [(0, 1), (1, 1), (2, 1)]) [.t 162, .t 167, .t 172]),
 (sH 174 (.bslF 3 1 [(.int .i64 0), (.int .i64 0), (.int .i64 0)] [(0, 3)]) [.t 173]),
 (sH 175 (.app 3 24 [(.int .i64 0), (.int .i64 0), (.int .i64 0)]) [.t 157, .t 174]),
 (sP 176 (.faddr 1) [.t 6]),
 (sHn (.store 1) [.t 176, .t 175])]))
 (.ops [
 (sM 154 11),
 (sP 155 (.bin .add .ifc) [.t 154, .c (.int .i64 1)]),
 (sM 11 155)])))
def r04_Make_L5 : CCode := .bloop 5 [1, 2, 3, 6, 7, 11] [1, 2, 3, 6, 7] r04_Make_B5

def r04_Make_B7 : CCode :=
 (.seq
 (.seq
 (.ops [
 (sM 177 12),
 (sM 178 7),
 (sP 179 .len [.t 178]),
 (sP 180 (.bin .lss .ifc) [.t 177, .t 179])])
 (.cond (.t 180)
 .skip
 (.exit 7)))
 (.seq
 (.block 8 (some [1, 2, 3, 6, 7, 12])
 (.seq
 (.ops [
 (sM 183 12),
 (sP 184 (.bin .gtr .ifc) [.t 183, .c (.int .i64 0)]),
 (sM 185 184),
 (sG (sP 186 (.faddr 7) [.t 1]) 185 true),
 (sG (sH 187 (.load false 1) [.t 186]) 185 true),
 (sG (sM 188 12) 185 true),
 (sG (sP 189 (.bin .rem .ifc) [.t 188, .c (.int .i64 8)]) 185 true),
 (sG (sP 190 (.bin .shr .ifc) [.t 187, .t 189]) 185 true),
 (sG (sP 191 (.bin .rem .ifc) [.t 190, .c (.int .u8 2)]) 185 true),
 (sG (sP 192 (.bin .eql .int) [.t 191, .c (.int .u8 1)]) 185 true),
 (sP 193 .pick [.t 185, .t 192, .c (.bool false)])])
 (.cond (.t 193)
 (.ops [
 (sP 194 (.faddr 2) [.t 6]),
 (sL 195 6 (.load false 1) [.t 194]),
 (sP 196 (.faddr 2) [.t 6]),
 (sL 197 6 (.load false 1) [.t 196]),
 (sP 198 .len [.t 197]),
 (sP 199 (.bin .sub .ifc) [.t 198, .c (.int .i64 1)]),
 (sP 200 (.faddr 2) [.t 6]),
 (sL 201 6 (.load false 1) [.t 200]),
 (sP 202 (.faddr 2) [.t 6]),
 (sL 203 6 (.load false 1) [.t 202]),
 (sP 204 .len [.t 203]),
 (sP 205 (.bin .sub .ifc) [.t 204, .c (.int .i64 1)]),
 (sP 206 (.iaddr 1) [.t 201, .t 205]),
 (sB 207 (.load false 1) [.t 206]),
 (sM 208 12),
 (sH 209 (.bslF 1 1 [(.int .i64 0)] [(0, 1)]) [.t 208]),
 (sB 210 (.app 1 8 [(.int .i64 0)]) [.t 207, .t 209]),
 (sP 211 (.iaddr 1) [.t 195, .t 199]),
 (sBn (.store 1) [.t 211, .t 210])])
 (.ops [
 (sP 212 (.faddr 2) [.t 6]),
 (sH 213 (.load false 1) [.t 212]),
 (sM 214 12),
 (sH 215 (.bslO 1 1 [(.int .i64 0)] [(0, 1)]) [.t 214]),
 (sH 216 (.bslO 1 1 [.nils] [(0, 1)]) [.t 215]),
 (sH 217 (.app 1 24 [.nils]) [.t 213, .t 216]),
 (sP 218 (.faddr 2) [.t 6]),
 (sHn (.store 1) [.t 218, .t 217])]))))
 (.ops [
 (sM 181 12),
 (sP 182 (.bin .add .ifc) [.t 181, .c (.int .i64 1)]),
 (sM 12 182)])))
def r04_Make_L7 : CCode := .bloop 7 [1, 2, 3, 6, 7, 12] [1, 2, 3, 6] r04_Make_B7
def r04_Make_C : CCode :=
 (.seq
 (.ops [
 (sH 1 (.box 1) [.t 0]),
 (sH 2 (.newl 2 [.nils, .nils, .nils, .nils, .nils, (.int .i64 0), (.int .i64 0), (.int .i64 0), (.int .i64 0), (.int .i64 0)]) [])])
 (.seq
 (.ops [
 (sP 13 (.faddr 1) [.t 1]),
 (sH 14 (.load false 1) [.t 13]),
 (sP 15 (.bin .rem .ifc) [.t 14, .c (.int .u8 20)]),
 (sP 16 (.toInt .i64) [.t 15]),
 (sP 17 (.bin .add .ifc) [.c (.int .i64 1), .t 16]),
 (sP 18 (.bin .mul .ifc) [.c (.int .i64 10), .t 17]),
 (sM 3 18)])
 (.seq
 (.ops [
 (sM 19 3),
 (sP 20 (.toFloat .f64) [.t 19]),
 (sP 21 .cplx [.t 20, .c (.float .f64 0)]),
 (sM 4 21)])
 (.seq
 (.ops [
 (sM 22 3),
 (sP 23 (.toFloat .f64) [.t 22]),
 (sP 24 .cplx [.c (.float .f64 0), .t 23]),
 (sM 5 24)])
 (.seq
 (.ops [
 (sH 6 (.newl 6 [.nils, .nils, .nils, .nils, .nils, (.int .i64 0), (.int .i64 0), (.int .i64 0), (.int .i64 0), (.int .i64 0)]) [])])
 (.seq
 (.ops [
 (sP 7 .mov [.c .nils])])
 (.seq
 (.seq
 (.ops [
 (sP 25 (.faddr 0) [.t 1]),
 (sH 26 (.load false 1) [.t 25]),
 (sP 27 (.bin .rem .ifc) [.t 26, .c (.int .u8 4)])])
 (.block 0 (some [1, 2, 3, 6, 7])
 (.seq
 (.ops [
 (sP 60 (.bin .eql .int) [.t 27, .c (.int .u8 0)]),
 (sM 59 60)])
 (.cond (.t 59)
 (.seq
 (.ops [
 (sP 61 (.faddr 0) [.t 1]),
 (sH 62 (.load false 1) [.t 61]),
 (sP 63 (.bin .quo .ifc) [.t 62, .c (.int .u8 4)]),
 (sP 64 (.bin .rem .ifc) [.t 63, .c (.int .u8 6)]),
 (sP 65 (.toInt .i64) [.t 64]),
 (sP 66 (.bin .add .ifc) [.c (.int .i64 3), .t 65]),
 (sM 8 66)])
 (.seq
 (.seq
 (.ops [
 (sP 9 .mov [.c (.int .i64 0)])])
 r04_Make_L1)
 (.seq
 (.ops [
 (sP 10 .mov [.c (.int .i64 0)])])
 r04_Make_L3)))
 (.seq
 (.ops [
 (sP 95 (.bin .eql .int) [.t 27, .c (.int .u8 1)]),
 (sM 94 95)])
 (.cond (.t 94)
 (.seq
 (.ops [
 (sM 96 4),
 (sM 97 4),
 (sP 98 (.bin .mul .ifc) [.c (.cplx .f64 4611686018427387904 0), .t 97]),
 (sM 99 5),
 (sP 100 (.bin .add .ifc) [.t 98, .t 99]),
 (sM 101 4),
 (sP 102 (.bin .mul .ifc) [.c (.cplx .f64 4611686018427387904 0), .t 101]),
 (sM 103 5),
 (sP 104 (.bin .sub .ifc) [.t 102, .t 103]),
 (sH 105 (.bslF 1 4 [(.cplx .f64 0 0)] [(0, 1), (1, 1), (2, 1), (3, 1)]) [.c (.cplx .f64 0 0), .t 96, .t 100, .t 104]),
 (sP 106 (.faddr 0) [.t 6]),
 (sHn (.store 1) [.t 106, .t 105])])
 (.seq
 (.ops [
 (sP 107 (.bld [(.int .i64 0), (.int .i64 0)] [(0, 1), (1, 1)]) [.c (.int .i64 0), .c (.int .i64 1)]),
 (sP 108 (.bld [(.int .i64 0), (.int .i64 0)] [(0, 1), (1, 1)]) [.c (.int .i64 1), .c (.int .i64 2)]),
 (sP 109 (.bld [(.int .i64 0), (.int .i64 0)] [(0, 1), (1, 1)]) [.c (.int .i64 3), .c (.int .i64 1)]),
 (sH 110 (.bslO 2 3 [(.int .i64 0), (.int .i64 0)] [(0, 2), (2, 2), (4, 2)]) [.t 107, .t 108, .t 109]),
 (sM 7 110)])
 (.ops [
 (sP 111 (.bld [(.int .i64 0), (.int .i64 0), (.int .i64 0), (.int .i64 0)] [(0, 1), (1, 1), (2, 1), (3, 1)]) [.c (.int .i64 1), .c (.int .i64 0), .c (.int .i64 1), .c (.int .i64 2)]),
 (sH 112 (.bslF 4 1 [(.int .i64 0), (.int .i64 0), (.int .i64 0), (.int .i64 0)] [(0, 4)]) [.t 111]),
 (sP 113 (.faddr 3) [.t 6]),
 (sHn (.store 1) [.t 113, .t 112])])))
 (.seq
 (.ops [
 (sP 115 (.bin .eql .int) [.t 27, .c (.int .u8 2)]),
 (sM 114 115)])
 (.cond (.t 114)
 (.seq
 (.ops [
 (sM 116 4),
 (sM 117 4),
 (sP 118 (.bin .mul .ifc) [.c (.cplx .f64 4611686018427387904 0), .t 117]),
 (sM 119 4),
 (sP 120 (.bin .mul .ifc) [.c (.cplx .f64 4613937818241073152 0), .t 119]),
 (sM 121 5),
 (sP 122 (.bin .quo .ifc) [.t 121, .c (.cplx .f64 4611686018427387904 0)]),
 (sP 123 (.bin .add .ifc) [.t 120, .t 122]),
 (sM 124 4),
 (sP 125 (.bin .mul .ifc) [.c (.cplx .f64 4613937818241073152 0), .t 124]),
 (sM 126 5),
 (sP 127 (.bin .quo .ifc) [.t 126, .c (.cplx .f64 4611686018427387904 0)]),
 (sP 128 (.bin .sub .ifc) [.t 125, .t 127]),
 (sM 129 4),
 (sP 130 (.bin .mul .ifc) [.c (.cplx .f64 4616189618054758400 0), .t 129]),
 (sM 131 4),
 (sP 132 (.bin .mul .ifc) [.c (.cplx .f64 4617315517961601024 0), .t 131]),
 (sM 133 4),
 (sP 134 (.bin .mul .ifc) [.c (.cplx .f64 4618441417868443648 0), .t 133]),
 (sH 135 (.bslF 1 8 [(.cplx .f64 0 0)] [(0, 1), (1, 1), (2, 1), (3, 1), (4, 1), (5, 1), (6, 1), (7, 1)]) [.c (.cplx .f64 0 0), .t 116, .t 118, .t 123, .t 128, .t 130, .t 132, .t 134]),
 (sP 136 (.faddr 0) [.t 6]),
 (sHn (.store 1) [.t 136, .t 135])])
 (.seq
 (.ops [
 (sP 137 (.bld [(.int .i64 0), (.int .i64 0)] [(0, 1), (1, 1)]) [.c (.int .i64 0), .c (.int .i64 1)]),
 (sP 138 (.bld [(.int .i64 0), (.int .i64 0)] [(0, 1), (1, 1)]) [.c (.int .i64 1), .c (.int .i64 2)]),
 (sP 139 (.bld [(.int .i64 0), (.int .i64 0)] [(0, 1), (1, 1)]) [.c (.int .i64 2), .c (.int .i64 3)]),
 (sP 140 (.bld [(.int .i64 0), (.int .i64 0)] [(0, 1), (1, 1)]) [.c (.int .i64 2), .c (.int .i64 4)]),
 (sP 141 (.bld [(.int .i64 0), (.int .i64 0)] [(0, 1), (1, 1)]) [.c (.int .i64 5), .c (.int .i64 3)]),
 (sP 142 (.bld [(.int .i64 0), (.int .i64 0)] [(0, 1), (1, 1)]) [.c (.int .i64 4), .c (.int .i64 5)]),
 (sP 143 (.bld [(.int .i64 0), (.int .i64 0)] [(0, 1), (1, 1)]) [.c (.int .i64 5), .c (.int .i64 6)]),
 (sP 144 (.bld [(.int .i64 0), (.int .i64 0)] [(0, 1), (1, 1)]) [.c (.int .i64 6), .c (.int .i64 7)]),
 (sH 145 (.bslO 2 8 [(.int .i64 0), (.int .i64 0)] [(0, 2), (2, 2), (4, 2), (6, 2), (8, 2), (10, 2), (12, 2), (14, 2)]) [.t 137, .t 138, .t 139, .t 140, .t 141, .t 142, .t 143, .t 144]),
 (sM 7 145)])
 (.ops [
 (sP 146 (.bld [(.int .i64 0), (.int .i64 0), (.int .i64 0), (.int .i64 0)] [(0, 1), (1, 1), (2, 1), (3, 1)]) [.c (.int .i64 2), .c (.int .i64 1), .c (.int .i64 2), .c (.int .i64 3)]),
 (sP 147 (.bld [(.int .i64 0), (.int .i64 0), (.int .i64 0), (.int .i64 0)] [(0, 1), (1, 1), (2, 1), (3, 1)]) [.c (.int .i64 5), .c (.int .i64 6), .c (.int .i64 4), .c (.int .i64 5)]),
 (sH 148 (.bslF 4 2 [(.int .i64 0), (.int .i64 0), (.int .i64 0), (.int .i64 0)] [(0, 4), (4, 4)]) [.t 146, .t 147]),
 (sP 149 (.faddr 3) [.t 6]),
 (sHn (.store 1) [.t 149, .t 148])])))
 (.seq
 (.ops [
 (sM 28 4),
 (sM 29 4),
 (sP 30 (.bin .mul .ifc) [.c (.cplx .f64 4611686018427387904 0), .t 29]),
 (sM 31 4),
 (sP 32 (.bin .mul .ifc) [.c (.cplx .f64 4613937818241073152 0), .t 31]),
 (sM 33 5),
 (sP 34 (.bin .add .ifc) [.t 32, .t 33]),
 (sM 35 4),
 (sP 36 (.bin .mul .ifc) [.c (.cplx .f64 4613937818241073152 0), .t 35]),
 (sM 37 5),
 (sP 38 (.bin .sub .ifc) [.t 36, .t 37]),
 (sM 39 4),
 (sP 40 (.bin .mul .ifc) [.c (.cplx .f64 4616189618054758400 0), .t 39]),
 (sM 41 5),
 (sP 42 (.bin .add .ifc) [.t 40, .t 41]),
 (sM 43 4),
 (sP 44 (.bin .mul .ifc) [.c (.cplx .f64 4616189618054758400 0), .t 43]),
 (sM 45 5),
 (sP 46 (.bin .sub .ifc) [.t 44, .t 45]),
 (sH 47 (.bslF 1 7 [(.cplx .f64 0 0)] [(0, 1), (1, 1), (2, 1), (3, 1), (4, 1), (5, 1), (6, 1)]) [.c (.cplx .f64 0 0), .t 28, .t 30, .t 34, .t 38, .t 42, .t 46]),
 (sP 48 (.faddr 0) [.t 6]),
 (sHn (.store 1) [.t 48, .t 47])])
 (.seq
 (.ops [
 (sP 49 (.bld [(.int .i64 0), (.int .i64 0)] [(0, 1), (1, 1)]) [.c (.int .i64 0), .c (.int .i64 1)]),
 (sP 50 (.bld [(.int .i64 0), (.int .i64 0)] [(0, 1), (1, 1)]) [.c (.int .i64 2), .c (.int .i64 1)]),
 (sP 51 (.bld [(.int .i64 0), (.int .i64 0)] [(0, 1), (1, 1)]) [.c (.int .i64 2), .c (.int .i64 3)]),
 (sP 52 (.bld [(.int .i64 0), (.int .i64 0)] [(0, 1), (1, 1)]) [.c (.int .i64 2), .c (.int .i64 4)]),
 (sP 53 (.bld [(.int .i64 0), (.int .i64 0)] [(0, 1), (1, 1)]) [.c (.int .i64 3), .c (.int .i64 5)]),
 (sP 54 (.bld [(.int .i64 0), (.int .i64 0)] [(0, 1), (1, 1)]) [.c (.int .i64 4), .c (.int .i64 6)]),
 (sH 55 (.bslO 2 6 [(.int .i64 0), (.int .i64 0)] [(0, 2), (2, 2), (4, 2), (6, 2), (8, 2), (10, 2)]) [.t 49, .t 50, .t 51, .t 52, .t 53, .t 54]),
 (sM 7 55)])
 (.ops [
 (sP 56 (.bld [(.int .i64 0), (.int .i64 0), (.int .i64 0), (.int .i64 0)] [(0, 1), (1, 1), (2, 1), (3, 1)]) [.c (.int .i64 2), .c (.int .i64 1), .c (.int .i64 3), .c (.int .i64 2)]),
 (sH 57 (.bslF 4 1 [(.int .i64 0), (.int .i64 0), (.int .i64 0), (.int .i64 0)] [(0, 4)]) [.t 56]),
 (sP 58 (.faddr 3) [.t 6]),
 (sHn (.store 1) [.t 58, .t 57])])))))))))))
 (.seq
 (.seq
 (.ops [
 (sP 11 .mov [.c (.int .i64 0)])])
 r04_Make_L5)
 (.seq
 (.seq
 (.ops [
 (sP 12 .mov [.c (.int .i64 0)])])
 r04_Make_L7)
 (.seq
 (.ops [
 (sP 219 (.faddr 2) [.t 1]),
 (sH 220 (.load false 1) [.t 219]),
 (sP 221 (.toInt .i64) [.t 220]),
 (sM 222 3),
 (sP 223 (.bin .mul .ifc) [.c (.int .i64 2), .t 222]),
 (sP 224 (.bin .rem .ifc) [.t 221, .t 223]),
 (sP 225 (.bin .add .ifc) [.c (.int .i64 1), .t 224]),
 (sP 226 (.faddr 5) [.t 6]),
 (sHn (.store 1) [.t 226, .t 225])])
 (.seq
 (.ops [
 (sP 227 (.faddr 3) [.t 1]),
 (sL 228 1 (.load false 1) [.t 227]),
 (sP 229 (.bin .rem .ifc) [.t 228, .c (.int .u16 1000)]),
 (sP 230 (.toInt .i64) [.t 229]),
 (sP 231 (.bin .add .ifc) [.c (.int .i64 1), .t 230]),
 (sP 232 (.faddr 4) [.t 1]),
 (sL 233 1 (.load false 1) [.t 232]),
 (sP 234 (.bin .rem .ifc) [.t 233, .c (.int .u16 1000)]),
 (sP 235 (.toInt .i64) [.t 234]),
 (sP 236 (.bin .add .ifc) [.c (.int .i64 1), .t 235]),
 (sP 237 (.faddr 5) [.t 1]),
 (sL 238 1 (.load false 1) [.t 237]),
 (sP 239 (.toInt .i64) [.t 238]),
 (sP 240 (.bin .add .ifc) [.c (.int .i64 1), .t 239]),
 (sP 241 (.faddr 6) [.t 1]),
 (sL 242 1 (.load false 1) [.t 241]),
 (sP 243 (.bin .rem .ifc) [.t 242, .c (.int .u8 4)]),
 (sP 244 (.toInt .i64) [.t 243]),
 (sP 245 (.faddr 6) [.t 6]),
 (sLn 6 (.store 1) [.t 245, .t 231]),
 (sP 246 (.faddr 7) [.t 6]),
 (sLn 6 (.store 1) [.t 246, .t 236]),
 (sP 247 (.faddr 8) [.t 6]),
 (sLn 6 (.store 1) [.t 247, .t 240]),
 (sP 248 (.faddr 9) [.t 6]),
 (sLn 6 (.store 1) [.t 248, .t 244])])
 (.seq
 (.ops [
 (sH 249 (.load true 10) [.t 6]),
 (sHn (.store 10) [.t 2, .t 249])])
 (.ret [2])))))))))))))
def r04_Make_I : FInfo := ⟨(.fz true), 1, r04_Make_C, [.cell 2 true 10]⟩
def r04_Make_A : Ann := ⟨[], [55, 110, 145, 215, 216], [(1, [1, 2, 3, 6, 7, 8, 9], [1, 2, 3, 6, 7, 8]), (3, [1, 2, 3, 6, 7, 8, 10], [1, 2, 3, 6, 7]), (5, [1, 2, 3, 6, 7, 11], [1, 2, 3, 6, 7]), (7, [1, 2, 3, 6, 7, 12], [1, 2, 3, 6])], [(0, [1, 2, 3, 6, 7]), (2, [1, 2, 3, 6, 7, 8, 9]), (4, [1, 2, 3, 6, 7, 8, 10]), (6, [1, 2, 3, 6, 7, 11]), (8, [1, 2, 3, 6, 7, 12])], [1, 2, 6]⟩
abbrev n_r04_Make : Nat := 14

/-! ### balise/baliseref05.Walk -/
def r05_Walk_B0 : CCode :=
 (.seq
 (.seq
 (.ops [
 (sM 21 11),
 (sP 22 .len [.t 21]),
 (sM 23 4),
 (sP 24 (.bin .lss .ifc) [.t 22, .t 23])])
 (.cond (.t 24)
 .skip
 (.exit 0)))
 (.seq
 (.block 1 (some [3, 4, 5, 11, 12, 13])
 (.seq
 (.ops [
 (sH 27 (.load true 10) [.t 5]),
 (sH 28 (.load true 2) [.t 12]),
 (sC 29 20 [.t 27, .t 28]),
 (sM 14 29)])
 (.seq
 (.seq
 (.ops [
 (sM 30 14),
 (sP 31 .len [.t 30]),
 (sP 32 (.bin .eql .int) [.t 31, .c (.int .i64 0)])])
 (.cond (.t 32)
 (.seq
 (.ops [
 (sM 33 11),
 (sM 10 33)])
 (.ret [10]))
 .skip))
 (.seq
 (.ops [
 (sP 15 .mov [.c (.int .i64 0)])])
 (.seq
 (.seq
 (.ops [
 (sM 34 13),
 (sM 35 3),
 (sP 36 .len [.t 35]),
 (sP 37 (.bin .lss .ifc) [.t 34, .t 36])])
 (.cond (.t 37)
 (.ops [
 (sM 38 3),
 (sM 39 13),
 (sP 40 (.iaddr 1) [.t 38, .t 39]),
 (sH 41 (.load false 1) [.t 40]),
 (sP 42 (.toInt .i64) [.t 41]),
 (sM 43 14),
 (sP 44 .len [.t 43]),
 (sP 45 (.bin .rem .ifc) [.t 42, .t 44]),
 (sM 15 45)])
 .skip))
 (.seq
 (.seq
 (.ops [
 (sM 46 11),
 (sM 47 14),
 (sM 48 15),
 (sP 49 (.iaddr 2) [.t 47, .t 48]),
 (sP 50 (.faddr 0) [.t 49]),
 (sH 51 (.load false 1) [.t 50]),
 (sC 52 21 [.t 46, .t 51])])
 (.cond (.t 52)
 (.seq
 (.ops [
 (sM 53 11),
 (sM 10 53)])
 (.ret [10]))
 .skip))
 (.seq
 (.ops [
 (sM 54 11),
 (sM 55 14),
 (sM 56 15),
 (sP 57 (.iaddr 2) [.t 55, .t 56]),
 (sP 58 (.faddr 0) [.t 57]),
 (sH 59 (.load false 1) [.t 58]),
 (sH 60 (.bslF 1 1 [(.int .i64 0)] [(0, 1)]) [.t 59]),
 (sH 61 (.app 1 8 [(.int .i64 0)]) [.t 54, .t 60]),
 (sM 11 61)])
 (.ops [
 (sM 62 14),
 (sM 63 15),
 (sP 64 (.iaddr 2) [.t 62, .t 63]),
 (sP 65 (.faddr 0) [.t 64]),
 (sH 66 (.load false 1) [.t 65]),
 (sM 67 14),
 (sM 68 15),
 (sP 69 (.iaddr 2) [.t 67, .t 68]),
 (sP 70 (.faddr 1) [.t 69]),
 (sH 71 (.load false 1) [.t 70]),
 (sP 72 (.bin .sub .ifc) [.c (.int .i64 1), .t 71]),
 (sP 73 (.bld [(.int .i64 0), (.int .i64 0)] [(0, 1), (1, 1)]) [.t 66, .t 72]),
 (sHn (.store 2) [.t 12, .t 73])]))))))))
 (.ops [
 (sM 25 13),
 (sP 26 (.bin .add .ifc) [.t 25, .c (.int .i64 1)]),
 (sM 13 26)])))
def r05_Walk_L0 : CCode := .bloop 0 [3, 4, 5, 11, 12, 13] [11] r05_Walk_B0
def r05_Walk_C : CCode :=
 (.seq
 (.ops [
 (sH 5 (.box 5) [.t 0]),
 (sP 10 .mov [.c .nils])])
 (.seq
 (.ops [
 (sM 16 1),
 (sH 17 (.bslO 1 1 [(.int .i64 0)] [(0, 1)]) [.t 16]),
 (sM 11 17)])
 (.seq
 (.ops [
 (sM 18 1),
 (sM 19 2),
 (sP 20 (.bld [(.int .i64 0), (.int .i64 0)] [(0, 1), (1, 1)]) [.t 18, .t 19]),
 (sH 12 (.newl 12 [(.int .i64 0), (.int .i64 0)]) []),
 (sHn (.store 2) [.t 12, .t 20])])
 (.seq
 (.seq
 (.ops [
 (sP 13 .mov [.c (.int .i64 0)])])
 r05_Walk_L0)
 (.seq
 (.ops [
 (sM 74 11),
 (sM 10 74)])
 (.ret [10]))))))
def r05_Walk_I : FInfo := ⟨(.fz false), 5, r05_Walk_C, [.tmp 10]⟩
def r05_Walk_A : Ann := ⟨[], [17], [(0, [3, 4, 5, 11, 12, 13], [11])], [(1, [3, 4, 5, 11, 12, 13])], [5, 12]⟩
abbrev n_r05_Walk : Nat := 15

/-! ### balise/baliseref01.Rise -/
def r01_Rise_B2 : CCode :=
 (.seq
 (.seq
 (.ops [
 (sM 6 5),
 (sM 7 0),
 (sP 8 .len [.t 7]),
 (sP 9 (.bin .lss .ifc) [.t 6, .t 8])])
 (.cond (.t 9)
 .skip
 (.exit 2)))
 (.seq
 (.block 3 (some [0, 3, 4, 5])
 (.seq
 (.ops [
 (sM 12 3),
 (sP 13 .len [.t 12]),
 (sP 14 (.bin .eql .int) [.t 13, .c (.int .i64 0)]),
 (sM 15 14),
 (sG (sM 16 0) 15 false),
 (sG (sM 17 5) 15 false),
 (sG (sP 18 (.iaddr 1) [.t 16, .t 17]) 15 false),
 (sG (sH 19 (.load false 1) [.t 18]) 15 false),
 (sG (sM 20 3) 15 false),
 (sG (sM 21 3) 15 false),
 (sG (sP 22 .len [.t 21]) 15 false),
 (sG (sP 23 (.bin .sub .ifc) [.t 22, .c (.int .i64 1)]) 15 false),
 (sG (sP 24 (.iaddr 1) [.t 20, .t 23]) 15 false),
 (sG (sH 25 (.load false 1) [.t 24]) 15 false),
 (sG (sP 26 (.bin .gtr .ifc) [.t 19, .t 25]) 15 false),
 (sP 27 .pick [.t 15, .c (.bool true), .t 26]),
 (sM 28 27),
 (sG (sM 29 4) 28 true),
 (sG (sP 30 (.bin .lss .ifc) [.t 29, .c (.int .i64 0)]) 28 true),
 (sG (sM 31 30) 28 true),
 (sG (sM 32 0) 31 false),
 (sG (sM 33 5) 31 false),
 (sG (sP 34 (.iaddr 1) [.t 32, .t 33]) 31 false),
 (sG (sH 35 (.load false 1) [.t 34]) 31 false),
 (sG (sM 36 0) 31 false),
 (sG (sM 37 4) 31 false),
 (sG (sP 38 (.iaddr 1) [.t 36, .t 37]) 31 false),
 (sG (sH 39 (.load false 1) [.t 38]) 31 false),
 (sG (sP 40 (.bin .lss .ifc) [.t 35, .t 39]) 31 false),
 (sG (sP 41 .pick [.t 31, .c (.bool true), .t 40]) 28 true),
 (sP 42 .pick [.t 28, .t 41, .c (.bool false)])])
 (.cond (.t 42)
 (.ops [
 (sM 43 5),
 (sM 4 43)])
 .skip)))
 (.ops [
 (sM 10 5),
 (sP 11 (.bin .add .ifc) [.t 10, .c (.int .i64 1)]),
 (sM 5 11)])))
def r01_Rise_L2 : CCode := .bloop 2 [0, 3, 4, 5] [0, 3, 4] r01_Rise_B2

def r01_Rise_B0 : CCode :=
 (.block 1 (some [0, 3])
 (.seq
 (.ops [
 (sP 4 .mov [.c (.int .i64 (-1))])])
 (.seq
 (.seq
 (.ops [
 (sP 5 .mov [.c (.int .i64 0)])])
 r01_Rise_L2)
 (.seq
 (.seq
 (.ops [
 (sM 44 4),
 (sP 45 (.bin .lss .ifc) [.t 44, .c (.int .i64 0)])])
 (.cond (.t 45)
 (.seq
 (.ops [
 (sM 46 3),
 (sM 2 46)])
 (.ret [2]))
 .skip))
 (.ops [
 (sM 47 3),
 (sM 48 0),
 (sM 49 4),
 (sP 50 (.iaddr 1) [.t 48, .t 49]),
 (sH 51 (.load false 1) [.t 50]),
 (sH 52 (.bslF 1 1 [(.int .i64 0)] [(0, 1)]) [.t 51]),
 (sH 53 (.app 1 8 [(.int .i64 0)]) [.t 47, .t 52]),
 (sM 3 53)])))))
def r01_Rise_L0 : CCode := .bloop 0 [0, 3] [] r01_Rise_B0
def r01_Rise_C : CCode :=
 (.seq
 (.ops [
 (sP 2 .mov [.c .nils])])
 (.seq
 (.ops [
 (sP 3 .mov [.c .nils])])
 r01_Rise_L0))
def r01_Rise_I : FInfo := ⟨(.fz false), 1, r01_Rise_C, [.tmp 2]⟩
def r01_Rise_A : Ann := ⟨[], [], [(0, [0, 3], []), (2, [0, 3, 4, 5], [0, 3, 4])], [(1, [0, 3]), (3, [0, 3, 4, 5])], []⟩
abbrev n_r01_Rise : Nat := 16

/-! ### balise/baliseref05.Around -/
def r05_Around_B0 : CCode :=
 (.seq
 (.seq
 (.ops [
 (sM 69 11),
 (sM 70 10),
 (sP 71 .len [.t 70]),
 (sP 72 (.bin .lss .ifc) [.t 69, .t 71])])
 (.cond (.t 72)
 .skip
 (.exit 0)))
 (.seq
 (.block 1 (some [3, 8, 10, 11])
 (.seq
 (.ops [
 (sM 75 10),
 (sM 76 11),
 (sP 77 (.iaddr 2) [.t 75, .t 76]),
 (sH 78 (.load true 2) [.t 77]),
 (sH 79 (.load true 2) [.t 3]),
 (sP 80 (.bin .neq (.parts [(0, false, 1, .int), (1, false, 1, .int)])) [.t 78, .t 79])])
 (.cond (.t 80)
 (.ops [
 (sM 81 8),
 (sM 82 10),
 (sM 83 11),
 (sP 84 (.iaddr 2) [.t 82, .t 83]),
 (sH 85 (.load true 2) [.t 84]),
 (sH 86 (.bslF 2 1 [(.int .i64 0), (.int .i64 0)] [(0, 2)]) [.t 85]),
 (sH 87 (.app 2 16 [(.int .i64 0), (.int .i64 0)]) [.t 81, .t 86]),
 (sM 8 87)])
 .skip)))
 (.ops [
 (sM 73 11),
 (sP 74 (.bin .add .ifc) [.t 73, .c (.int .i64 1)]),
 (sM 11 74)])))
def r05_Around_L0 : CCode := .bloop 0 [3, 8, 10, 11] [8] r05_Around_B0
def r05_Around_C : CCode :=
 (.seq
 (.ops [
 (sH 2 (.box 2) [.t 0]),
 (sH 3 (.box 3) [.t 1]),
 (sP 4 .mov [.c .nils])])
 (.seq
 (.ops [
 (sH 13 (.load true 10) [.t 2]),
 (sH 14 (.load true 2) [.t 3]),
 (sC 15 29 [.t 13, .t 14]),
 (sM 12 15),
 (sP 16 (.ext 0) [.t 12]),
 (sP 17 (.ext 1) [.t 12]),
 (sM 5 16),
 (sM 6 17)])
 (.seq
 (.seq
 (.ops [
 (sM 18 6),
 (sP 19 (.un .not) [.t 18])])
 (.cond (.t 19)
 (.seq
 (.ops [
 (sP 4 .mov [.c .nils])])
 (.ret [4]))
 .skip))
 (.seq
 (.ops [
 (sH 20 (.load true 10) [.t 2]),
 (sM 21 5),
 (sC 22 30 [.t 20, .t 21]),
 (sM 7 22)])
 (.seq
 (.ops [
 (sP 8 .mov [.c .nils])])
 (.seq
 (.seq
 (.ops [
 (sM 23 7),
 (sP 24 (.bin .geq .ifc) [.t 23, .c (.int .i64 0)])])
 (.cond (.t 24)
 (.seq
 (.ops [
 (sP 25 (.faddr 3) [.t 2]),
 (sH 26 (.load false 1) [.t 25]),
 (sM 27 7),
 (sP 28 (.iaddr 4) [.t 26, .t 27]),
 (sH 29 (.load true 4) [.t 28]),
 (sH 9 (.newl 9 [(.int .i64 0), (.int .i64 0), (.int .i64 0), (.int .i64 0)]) []),
 (sHn (.store 4) [.t 9, .t 29])])
 (.seq
 (.seq
 (.ops [
 (sP 30 (.faddr 0) [.t 3]),
 (sH 31 (.load false 1) [.t 30]),
 (sP 32 (.faddr 1) [.t 9]),
 (sH 33 (.load false 1) [.t 32]),
 (sP 34 (.bin .eql .int) [.t 31, .t 33])])
 (.cond (.t 34)
 (.seq
 (.ops [
 (sM 35 8),
 (sH 36 (.load true 10) [.t 2]),
 (sP 37 (.faddr 2) [.t 9]),
 (sH 38 (.load false 1) [.t 37]),
 (sM 39 5),
 (sC 40 31 [.t 36, .t 38, .t 39]),
 (sH 41 (.app 2 16 [(.int .i64 0), (.int .i64 0)]) [.t 35, .t 40]),
 (sM 8 41)])
 (.seq
 (.ops [
 (sM 42 8),
 (sH 43 (.load true 10) [.t 2]),
 (sP 44 (.faddr 3) [.t 9]),
 (sH 45 (.load false 1) [.t 44]),
 (sM 46 5),
 (sC 47 31 [.t 43, .t 45, .t 46]),
 (sH 48 (.app 2 16 [(.int .i64 0), (.int .i64 0)]) [.t 42, .t 47]),
 (sM 4 48)])
 (.ret [4])))
 .skip))
 (.seq
 (.seq
 (.ops [
 (sP 49 (.faddr 0) [.t 3]),
 (sH 50 (.load false 1) [.t 49]),
 (sP 51 (.faddr 2) [.t 9]),
 (sH 52 (.load false 1) [.t 51]),
 (sP 53 (.bin .eql .int) [.t 50, .t 52]),
 (sM 54 53),
 (sG (sP 55 (.faddr 0) [.t 3]) 54 false),
 (sG (sH 56 (.load false 1) [.t 55]) 54 false),
 (sG (sP 57 (.faddr 3) [.t 9]) 54 false),
 (sG (sH 58 (.load false 1) [.t 57]) 54 false),
 (sG (sP 59 (.bin .eql .int) [.t 56, .t 58]) 54 false),
 (sP 60 .pick [.t 54, .c (.bool true), .t 59])])
 (.cond (.t 60)
 (.seq
 (.ops [
 (sH 61 (.load true 10) [.t 2]),
 (sP 62 (.faddr 1) [.t 9]),
 (sH 63 (.load false 1) [.t 62]),
 (sM 64 5),
 (sC 65 31 [.t 61, .t 63, .t 64]),
 (sM 4 65)])
 (.ret [4]))
 .skip))
 (.seq
 (.ops [
 (sP 4 .mov [.c .nils])])
 (.ret [4])))))
 .skip))
 (.seq
 (.ops [
 (sH 66 (.load true 10) [.t 2]),
 (sM 67 5),
 (sC 68 32 [.t 66, .t 67]),
 (sM 10 68)])
 (.seq
 (.seq
 (.ops [
 (sP 11 .mov [.c (.int .i64 0)])])
 r05_Around_L0)
 (.seq
 (.seq
 (.ops [
 (sM 88 8),
 (sP 89 .len [.t 88]),
 (sP 90 (.bin .neq .int) [.t 89, .c (.int .i64 1)])])
 (.cond (.t 90)
 (.seq
 (.ops [
 (sP 4 .mov [.c .nils])])
 (.ret [4]))
 .skip))
 (.seq
 (.ops [
 (sM 91 8),
 (sM 4 91)])
 (.ret [4])))))))))))
def r05_Around_I : FInfo := ⟨(.fz false), 2, r05_Around_C, [.tmp 4]⟩
def r05_Around_A : Ann := ⟨[], [], [(0, [3, 8, 10, 11], [8])], [(1, [3, 8, 10, 11])], [2, 3, 9]⟩
abbrev n_r05_Around : Nat := 20

/-! ### balise/baliseref01.Has -/
def r01_Has_B0 : CCode :=
 (.seq
 (.seq
 (.ops [
 (sM 6 5),
 (sM 7 0),
 (sP 8 .len [.t 7]),
 (sP 9 (.bin .lss .ifc) [.t 6, .t 8])])
 (.cond (.t 9)
 .skip
 (.exit 0)))
 (.seq
 (.block 1 (some [0, 1, 5])
 (.seq
 (.ops [
 (sM 12 0),
 (sM 13 5),
 (sP 14 (.iaddr 1) [.t 12, .t 13]),
 (sH 15 (.load false 1) [.t 14]),
 (sM 16 1),
 (sP 17 (.bin .eql .int) [.t 15, .t 16])])
 (.cond (.t 17)
 (.seq
 (.ops [
 (sP 4 .mov [.c (.bool true)])])
 (.ret [4]))
 .skip)))
 (.ops [
 (sM 10 5),
 (sP 11 (.bin .add .ifc) [.t 10, .c (.int .i64 1)]),
 (sM 5 11)])))
def r01_Has_L0 : CCode := .bloop 0 [0, 1, 5] [] r01_Has_B0
def r01_Has_C : CCode :=
 (.seq
 (.ops [
 (sP 4 .mov [.c (.bool false)])])
 (.seq
 (.seq
 (.ops [
 (sP 5 .mov [.c (.int .i64 0)])])
 r01_Has_L0)
 (.seq
 (.ops [
 (sP 4 .mov [.c (.bool false)])])
 (.ret [4]))))
def r01_Has_I : FInfo := ⟨(.fz false), 2, r01_Has_C, [.tmp 4]⟩
def r01_Has_A : Ann := ⟨[], [], [(0, [0, 1, 5], [])], [(1, [0, 1, 5])], []⟩
abbrev n_r01_Has : Nat := 21

/-! ### balise/graph.New -/
def graph_New_C : CCode :=
 (.seq
 (.ops [
 (sH 1 (.box 1) [.t 0]),
 (sP 2 .mov [.c .nilp])])
 (.seq
 (.ops [
 (sH 3 (.load true 10) [.t 1]),
 (sP 4 (.bld [.nils, .nils, .nils, .nils, .nils, (.int .i64 0), (.int .i64 0), (.int .i64 0), (.int .i64 0), (.int .i64 0)] [(0, 10)]) [.t 3]),
 (sH 5 .boxh [.t 4]),
 (sM 2 5)])
 (.ret [2])))
def graph_New_I : FInfo := ⟨(.fz false), 1, graph_New_C, [.tmp 2]⟩
def graph_New_A : Ann := ⟨[5], [], [], [], [1]⟩
abbrev n_graph_New : Nat := 22

/-! ### balise/baliseref05.node -/
def r05_node_C : CCode :=
 (.seq
 (.ops [
 (sH 2 (.box 2) [.t 0]),
 (sH 3 (.box 3) [.t 1]),
 (sP 4 .mov [.c (.int .i64 0)]),
 (sP 5 .mov [.c (.bool false)])])
 (.seq
 (.seq
 (.ops [
 (sP 6 (.faddr 0) [.t 3]),
 (sH 7 (.load false 1) [.t 6]),
 (sP 8 (.bin .lss .ifc) [.t 7, .c (.int .i64 0)]),
 (sM 9 8),
 (sG (sP 10 (.faddr 0) [.t 3]) 9 false),
 (sG (sH 11 (.load false 1) [.t 10]) 9 false),
 (sG (sP 12 (.faddr 1) [.t 2]) 9 false),
 (sG (sH 13 (.load false 1) [.t 12]) 9 false),
 (sG (sP 14 .len [.t 13]) 9 false),
 (sG (sP 15 (.bin .geq .ifc) [.t 11, .t 14]) 9 false),
 (sP 16 .pick [.t 9, .c (.bool true), .t 15]),
 (sM 17 16),
 (sG (sP 18 (.faddr 1) [.t 3]) 17 false),
 (sG (sH 19 (.load false 1) [.t 18]) 17 false),
 (sG (sP 20 (.bin .lss .ifc) [.t 19, .c (.int .i64 0)]) 17 false),
 (sP 21 .pick [.t 17, .c (.bool true), .t 20]),
 (sM 22 21),
 (sG (sP 23 (.faddr 1) [.t 3]) 22 false),
 (sG (sH 24 (.load false 1) [.t 23]) 22 false),
 (sG (sP 25 (.bin .gtr .ifc) [.t 24, .c (.int .i64 1)]) 22 false),
 (sP 26 .pick [.t 22, .c (.bool true), .t 25])])
 (.cond (.t 26)
 (.seq
 (.ops [
 (sP 4 .mov [.c (.int .i64 0)]),
 (sP 5 .mov [.c (.bool false)])])
 (.ret [4, 5]))
 .skip))
 (.seq
 (.seq
 (.ops [
 (sP 27 (.faddr 1) [.t 3]),
 (sH 28 (.load false 1) [.t 27]),
 (sP 29 (.bin .eql .int) [.t 28, .c (.int .i64 0)])])
 (.cond (.t 29)
 (.seq
 (.ops [
 (sP 30 (.faddr 1) [.t 2]),
 (sH 31 (.load false 1) [.t 30]),
 (sP 32 (.faddr 0) [.t 3]),
 (sH 33 (.load false 1) [.t 32]),
 (sP 34 (.iaddr 3) [.t 31, .t 33]),
 (sP 35 (.faddr 1) [.t 34]),
 (sH 36 (.load false 1) [.t 35]),
 (sM 4 36),
 (sP 5 .mov [.c (.bool true)])])
 (.ret [4, 5]))
 .skip))
 (.seq
 (.ops [
 (sP 37 (.faddr 1) [.t 2]),
 (sH 38 (.load false 1) [.t 37]),
 (sP 39 (.faddr 0) [.t 3]),
 (sH 40 (.load false 1) [.t 39]),
 (sP 41 (.iaddr 3) [.t 38, .t 40]),
 (sP 42 (.faddr 2) [.t 41]),
 (sH 43 (.load false 1) [.t 42]),
 (sM 4 43),
 (sP 5 .mov [.c (.bool true)])])
 (.ret [4, 5])))))
def r05_node_I : FInfo := ⟨(.fz false), 2, r05_node_C, [.tmp 4, .tmp 5]⟩
def r05_node_A : Ann := ⟨[], [], [], [], [2, 3]⟩
abbrev n_r05_node : Nat := 29

/-! ### balise/baliseref05.Point -/
def r05_Point_B0 : CCode :=
 (.seq
 (.seq
 (.ops [
 (sM 6 5),
 (sP 7 (.faddr 3) [.t 2]),
 (sH 8 (.load false 1) [.t 7]),
 (sP 9 .len [.t 8]),
 (sP 10 (.bin .lss .ifc) [.t 6, .t 9])])
 (.cond (.t 10)
 .skip
 (.exit 0)))
 (.seq
 (.block 1 (some [1, 2, 5])
 (.seq
 (.ops [
 (sP 13 (.faddr 3) [.t 2]),
 (sH 14 (.load false 1) [.t 13]),
 (sM 15 5),
 (sP 16 (.iaddr 4) [.t 14, .t 15]),
 (sP 17 (.faddr 0) [.t 16]),
 (sH 18 (.load false 1) [.t 17]),
 (sM 19 1),
 (sP 20 (.bin .eql .int) [.t 18, .t 19])])
 (.cond (.t 20)
 (.seq
 (.ops [
 (sM 21 5),
 (sM 4 21)])
 (.ret [4]))
 .skip)))
 (.ops [
 (sM 11 5),
 (sP 12 (.bin .add .ifc) [.t 11, .c (.int .i64 1)]),
 (sM 5 12)])))
def r05_Point_L0 : CCode := .bloop 0 [1, 2, 5] [] r05_Point_B0
def r05_Point_C : CCode :=
 (.seq
 (.ops [
 (sH 2 (.box 2) [.t 0]),
 (sP 4 .mov [.c (.int .i64 0)])])
 (.seq
 (.seq
 (.ops [
 (sP 5 .mov [.c (.int .i64 0)])])
 r05_Point_L0)
 (.seq
 (.ops [
 (sP 4 .mov [.c (.int .i64 (-1))])])
 (.ret [4]))))
def r05_Point_I : FInfo := ⟨(.fz false), 2, r05_Point_C, [.tmp 4]⟩
def r05_Point_A : Ann := ⟨[], [], [(0, [1, 2, 5], [])], [(1, [1, 2, 5])], [2]⟩
abbrev n_r05_Point : Nat := 30

/-! ### balise/baliseref05.one -/
def r05_one_B0 : CCode :=
 (.seq
 (.seq
 (.ops [
 (sM 12 8),
 (sM 13 7),
 (sP 14 .len [.t 13]),
 (sP 15 (.bin .lss .ifc) [.t 12, .t 14])])
 (.cond (.t 15)
 .skip
 (.exit 0)))
 (.seq
 (.block 1 (some [1, 7, 8])
 (.seq
 (.ops [
 (sM 18 7),
 (sM 19 8),
 (sP 20 (.iaddr 2) [.t 18, .t 19]),
 (sP 21 (.faddr 0) [.t 20]),
 (sH 22 (.load false 1) [.t 21]),
 (sM 23 1),
 (sP 24 (.bin .eql .int) [.t 22, .t 23])])
 (.cond (.t 24)
 (.seq
 (.ops [
 (sM 25 7),
 (sM 26 8),
 (sM 27 8),
 (sP 28 (.bin .add .ifc) [.t 27, .c (.int .i64 1)]),
 (sP 29 (.slc 2 true true) [.t 25, .t 26, .t 28]),
 (sM 6 29)])
 (.ret [6]))
 .skip)))
 (.ops [
 (sM 16 8),
 (sP 17 (.bin .add .ifc) [.t 16, .c (.int .i64 1)]),
 (sM 8 17)])))
def r05_one_L0 : CCode := .bloop 0 [1, 7, 8] [] r05_one_B0
def r05_one_C : CCode :=
 (.seq
 (.ops [
 (sH 3 (.box 3) [.t 0]),
 (sP 6 .mov [.c .nils])])
 (.seq
 (.ops [
 (sH 9 (.load true 10) [.t 3]),
 (sM 10 2),
 (sC 11 32 [.t 9, .t 10]),
 (sM 7 11)])
 (.seq
 (.seq
 (.ops [
 (sP 8 .mov [.c (.int .i64 0)])])
 r05_one_L0)
 (.seq
 (.ops [
 (sP 6 .mov [.c .nils])])
 (.ret [6])))))
def r05_one_I : FInfo := ⟨(.fz false), 3, r05_one_C, [.tmp 6]⟩
def r05_one_A : Ann := ⟨[], [], [(0, [1, 7, 8], [])], [(1, [1, 7, 8])], [3]⟩
abbrev n_r05_one : Nat := 31

/-! ### balise/baliseref05.Ends -/
def r05_Ends_B0 : CCode :=
 (.seq
 (.seq
 (.ops [
 (sM 7 6),
 (sP 8 (.faddr 1) [.t 2]),
 (sH 9 (.load false 1) [.t 8]),
 (sP 10 .len [.t 9]),
 (sP 11 (.bin .lss .ifc) [.t 7, .t 10])])
 (.cond (.t 11)
 .skip
 (.exit 0)))
 (.seq
 (.block 1 (some [1, 2, 5, 6])
 (.seq
 (.seq
 (.ops [
 (sP 14 (.faddr 1) [.t 2]),
 (sH 15 (.load false 1) [.t 14]),
 (sM 16 6),
 (sP 17 (.iaddr 3) [.t 15, .t 16]),
 (sP 18 (.faddr 1) [.t 17]),
 (sH 19 (.load false 1) [.t 18]),
 (sM 20 1),
 (sP 21 (.bin .eql .int) [.t 19, .t 20])])
 (.cond (.t 21)
 (.ops [
 (sM 22 5),
 (sM 23 6),
 (sP 24 (.bld [(.int .i64 0), (.int .i64 0)] [(0, 1), (1, 1)]) [.t 23, .c (.int .i64 0)]),
 (sH 25 (.bslF 2 1 [(.int .i64 0), (.int .i64 0)] [(0, 2)]) [.t 24]),
 (sH 26 (.app 2 16 [(.int .i64 0), (.int .i64 0)]) [.t 22, .t 25]),
 (sM 5 26)])
 .skip))
 (.seq
 (.ops [
 (sP 27 (.faddr 1) [.t 2]),
 (sH 28 (.load false 1) [.t 27]),
 (sM 29 6),
 (sP 30 (.iaddr 3) [.t 28, .t 29]),
 (sP 31 (.faddr 2) [.t 30]),
 (sH 32 (.load false 1) [.t 31]),
 (sM 33 1),
 (sP 34 (.bin .eql .int) [.t 32, .t 33])])
 (.cond (.t 34)
 (.ops [
 (sM 35 5),
 (sM 36 6),
 (sP 37 (.bld [(.int .i64 0), (.int .i64 0)] [(0, 1), (1, 1)]) [.t 36, .c (.int .i64 1)]),
 (sH 38 (.bslF 2 1 [(.int .i64 0), (.int .i64 0)] [(0, 2)]) [.t 37]),
 (sH 39 (.app 2 16 [(.int .i64 0), (.int .i64 0)]) [.t 35, .t 38]),
 (sM 5 39)])
 .skip))))
 (.ops [
 (sM 12 6),
 (sP 13 (.bin .add .ifc) [.t 12, .c (.int .i64 1)]),
 (sM 6 13)])))
def r05_Ends_L0 : CCode := .bloop 0 [1, 2, 5, 6] [5] r05_Ends_B0
def r05_Ends_C : CCode :=
 (.seq
 (.ops [
 (sH 2 (.box 2) [.t 0]),
 (sP 4 .mov [.c .nils])])
 (.seq
 (.ops [
 (sP 5 .mov [.c .nils])])
 (.seq
 (.seq
 (.ops [
 (sP 6 .mov [.c (.int .i64 0)])])
 r05_Ends_L0)
 (.seq
 (.ops [
 (sM 40 5),
 (sM 4 40)])
 (.ret [4])))))
def r05_Ends_I : FInfo := ⟨(.fz false), 2, r05_Ends_C, [.tmp 4]⟩
def r05_Ends_A : Ann := ⟨[], [], [(0, [1, 2, 5, 6], [5])], [(1, [1, 2, 5, 6])], [2]⟩
abbrev n_r05_Ends : Nat := 32

/-! ### (*balise/graph.Graph).Ends -/
def graph_Graph_Ends_B2 : CCode :=
 (.seq
 (.ops [
 (sP 28 (.bin .lss .ifc) [.t 27, .c (.int .i64 2)])])
 (.seq
 (.cond (.t 28)
 .skip
 (.exit 2))
 (.seq
 (.block 3 (some [0, 1, 5, 6, 26, 27])
 (.seq
 (.ops [
 (sM 29 27),
 (sP 30 (.idxA 2 false 1) [.t 26, .t 27]),
 (sM 9 29),
 (sM 10 30)])
 (.seq
 (.ops [
 (sM 31 10),
 (sM 32 1),
 (sP 33 (.bin .eql .int) [.t 31, .t 32])])
 (.cond (.t 33)
 (.ops [
 (sM 34 5),
 (sM 35 6),
 (sM 36 9),
 (sP 37 (.bld [(.int .i64 0), (.int .i64 0)] [(0, 1), (1, 1)]) [.t 35, .t 36]),
 (sH 38 (.bslF 2 1 [(.int .i64 0), (.int .i64 0)] [(0, 2)]) [.t 37]),
 (sH 39 (.app 2 16 [(.int .i64 0), (.int .i64 0)]) [.t 34, .t 38]),
 (sM 5 39)])
 .skip))))
 (.ops [
 (sP 40 (.bin .add .ifc) [.t 27, .c (.int .i64 1)]),
 (sM 27 40)]))))
def graph_Graph_Ends_L2 : CCode := .bloop 2 [0, 1, 5, 6, 26, 27] [0, 1, 5, 6] graph_Graph_Ends_B2

def graph_Graph_Ends_B0 : CCode :=
 (.seq
 (.block 1 (some [0, 1, 5, 6])
 (.seq
 (.ops [
 (sM 14 0),
 (sM 15 6),
 (sC 16 60 [.t 14, .t 15]),
 (sM 13 16),
 (sP 17 (.ext 0) [.t 13]),
 (sP 18 (.ext 1) [.t 13]),
 (sH 7 (.newl 7 [(.int .i64 0), (.int .i64 0), (.int .i64 0)]) []),
 (sHn (.store 3) [.t 7, .t 17]),
 (sM 8 18)])
 (.seq
 (.seq
 (.ops [
 (sM 19 8),
 (sP 20 (.un .not) [.t 19])])
 (.cond (.t 20)
 (.seq
 (.ops [
 (sM 21 5),
 (sM 4 21)])
 (.ret [4]))
 .skip))
 (.seq
 (.ops [
 (sP 22 (.faddr 1) [.t 7]),
 (sH 23 (.load false 1) [.t 22]),
 (sP 24 (.faddr 2) [.t 7]),
 (sH 25 (.load false 1) [.t 24]),
 (sP 26 (.bld [(.int .i64 0), (.int .i64 0)] [(0, 1), (1, 1)]) [.t 23, .t 25]),
 (sP 27 .mov [.c (.int .i64 0)])])
 graph_Graph_Ends_L2))))
 (.ops [
 (sM 11 6),
 (sP 12 (.bin .add .ifc) [.t 11, .c (.int .i64 1)]),
 (sM 6 12)]))
def graph_Graph_Ends_L0 : CCode := .bloop 0 [0, 1, 5, 6] [] graph_Graph_Ends_B0
def graph_Graph_Ends_C : CCode :=
 (.seq
 (.ops [
 (sP 4 .mov [.c .nils])])
 (.seq
 (.ops [
 (sP 5 .mov [.c .nils])])
 (.seq
 (.ops [
 (sP 6 .mov [.c (.int .i64 0)])])
 graph_Graph_Ends_L0)))
def graph_Graph_Ends_I : FInfo := ⟨.own, 2, graph_Graph_Ends_C, [.tmp 4]⟩
def graph_Graph_Ends_A : Ann := ⟨[], [], [(0, [0, 1, 5, 6], []), (2, [0, 1, 5, 6, 26, 27], [0, 1, 5, 6])], [(1, [0, 1, 5, 6]), (3, [0, 1, 5, 6, 26, 27])], [7]⟩
abbrev n_graph_Graph_Ends : Nat := 42

/-! ### (*balise/graph.Graph).section -/
def graph_Graph_section_C : CCode :=
 (.seq
 (.ops [
 (sH 4 (.newl 4 [(.int .i64 0), (.int .i64 0), (.int .i64 0)]) []),
 (sP 5 .mov [.c (.bool false)])])
 (.seq
 (.seq
 (.ops [
 (sM 6 0),
 (sP 7 (.bin .eql .ptr) [.t 6, .c .nilp]),
 (sM 8 7),
 (sG (sM 9 1) 8 false),
 (sG (sP 10 (.bin .lss .ifc) [.t 9, .c (.int .i64 0)]) 8 false),
 (sP 11 .pick [.t 8, .c (.bool true), .t 10]),
 (sM 12 11),
 (sG (sM 13 1) 12 false),
 (sG (sM 14 0) 12 false),
 (sG (sP 15 .nchk [.t 14]) 12 false),
 (sG (sP 16 (.faddr 0) [.t 15]) 12 false),
 (sG (sP 17 (.faddr 1) [.t 16]) 12 false),
 (sG (sH 18 (.load false 1) [.t 17]) 12 false),
 (sG (sP 19 .len [.t 18]) 12 false),
 (sG (sP 20 (.bin .geq .ifc) [.t 13, .t 19]) 12 false),
 (sP 21 .pick [.t 12, .c (.bool true), .t 20])])
 (.cond (.t 21)
 (.seq
 (.ops [
 (sP 22 (.bld [(.int .i64 0), (.int .i64 0), (.int .i64 0)] []) []),
 (sHn (.store 3) [.t 4, .t 22]),
 (sP 5 .mov [.c (.bool false)])])
 (.ret [4, 5]))
 .skip))
 (.seq
 (.ops [
 (sM 23 0),
 (sP 24 .nchk [.t 23]),
 (sP 25 (.faddr 0) [.t 24]),
 (sP 26 (.faddr 1) [.t 25]),
 (sH 27 (.load false 1) [.t 26]),
 (sM 28 1),
 (sP 29 (.iaddr 3) [.t 27, .t 28]),
 (sH 30 (.load true 3) [.t 29]),
 (sHn (.store 3) [.t 4, .t 30]),
 (sP 5 .mov [.c (.bool true)])])
 (.ret [4, 5]))))
def graph_Graph_section_I : FInfo := ⟨(.fz false), 2, graph_Graph_section_C, [.cell 4 true 3, .tmp 5]⟩
def graph_Graph_section_A : Ann := ⟨[], [], [], [], [4]⟩
abbrev n_graph_Graph_section : Nat := 60

/-! ### (*balise/graph.Graph).Point -/
def graph_Graph_Point_C : CCode :=
 (.seq
 (.ops [
 (sH 3 .boxh [.t 1]),
 (sP 4 .mov [.c (.int .i64 0)])])
 (.seq
 (.seq
 (.ops [
 (sM 5 0),
 (sP 6 (.bin .eql .ptr) [.t 5, .c .nilp])])
 (.cond (.t 6)
 (.seq
 (.ops [
 (sP 4 .mov [.c (.int .i64 (-1))])])
 (.ret [4]))
 .skip))
 (.seq
 (.ops [
 (sM 7 0),
 (sP 8 .nchk [.t 7]),
 (sP 9 (.faddr 0) [.t 8]),
 (sP 10 (.faddr 3) [.t 9]),
 (sH 11 (.load false 1) [.t 10]),
 (sP 12 (.mkfn (.func 78) 0) [.t 3]),
 (sC 13 77 [.t 11, .t 12]),
 (sM 4 13)])
 (.ret [4]))))
def graph_Graph_Point_I : FInfo := ⟨(.fz false), 2, graph_Graph_Point_C, [.tmp 4]⟩
def graph_Graph_Point_A : Ann := ⟨[3], [], [], [], []⟩
abbrev n_graph_Graph_Point : Nat := 64

/-! ### slices.IndexFunc[[]balise/api.Point,balise/api.Point] -/
def slices_IndexFunc_Point_B0 : CCode :=
 (.seq
 (.ops [
 (sP 9 (.bin .lss .ifc) [.t 8, .t 7])])
 (.seq
 (.cond (.t 9)
 .skip
 (.exit 0))
 (.seq
 (.block 1 (some [0, 1, 7, 8])
 (.seq
 (.ops [
 (sM 10 8),
 (sM 5 10)])
 (.seq
 (.ops [
 (sM 11 1),
 (sM 12 0),
 (sM 13 5),
 (sP 14 (.iaddr 4) [.t 12, .t 13]),
 (sH 15 (.load true 4) [.t 14]),
 ⟨(some 16), .call, [.t 11, .t 15], none⟩])
 (.cond (.t 16)
 (.seq
 (.ops [
 (sM 17 5),
 (sM 4 17)])
 (.ret [4]))
 .skip))))
 (.ops [
 (sP 18 (.bin .add .ifc) [.t 8, .c (.int .i64 1)]),
 (sM 8 18)]))))
def slices_IndexFunc_Point_L0 : CCode := .bloop 0 [0, 1, 7, 8] [] slices_IndexFunc_Point_B0
def slices_IndexFunc_Point_C : CCode :=
 (.seq
 (.ops [
 (sP 4 .mov [.c (.int .i64 0)])])
 (.seq
 (.seq
 (.ops [
 (sM 6 0),
 (sP 7 .len [.t 6]),
 (sP 8 .mov [.c (.int .i64 0)])])
 slices_IndexFunc_Point_L0)
 (.seq
 (.ops [
 (sP 4 .mov [.c (.int .i64 (-1))])])
 (.ret [4]))))
def slices_IndexFunc_Point_I : FInfo := ⟨(.fz false), 2, slices_IndexFunc_Point_C, [.tmp 4]⟩
def slices_IndexFunc_Point_A : Ann := ⟨[], [], [(0, [0, 1, 7, 8], [])], [(1, [0, 1, 7, 8])], []⟩
abbrev n_slices_IndexFunc_Point : Nat := 77

/-! ### (*balise/graph.Graph).Point$1 -/
def graph_Graph_Point_1_C : CCode :=
 (.seq
 (.ops [
 (sH 2 (.box 2) [.t 0]),
 (sP 3 .mov [.c (.bool false)])])
 (.seq
 (.ops [
 (sP 4 (.faddr 0) [.t 2]),
 (sH 5 (.load false 1) [.t 4]),
 (sH 6 (.load false 1) [.t 1]),
 (sP 7 (.bin .eql .int) [.t 5, .t 6]),
 (sM 3 7)])
 (.ret [3])))
def graph_Graph_Point_1_I : FInfo := ⟨(.fz false), 2, graph_Graph_Point_1_C, [.tmp 3]⟩
def graph_Graph_Point_1_A : Ann := ⟨[], [], [], [], [2]⟩
abbrev n_graph_Graph_Point_1 : Nat := 78

/-! ### (*balise/graph.Graph).Path -/
def graph_Graph_Path_B0 : CCode :=
 (.seq
 (.ops [
 (sP 17 (.bin .lss .ifc) [.t 16, .t 15])])
 (.seq
 (.cond (.t 17)
 .skip
 (.exit 0))
 (.seq
 (.block 1 (some [0, 1, 14, 15, 16])
 (.seq
 (.ops [
 (sM 18 16),
 (sP 19 (.iaddr 1) [.t 14, .t 16]),
 (sH 20 (.load false 1) [.t 19]),
 (sM 6 18),
 (sM 7 20)])
 (.seq
 (.ops [
 (sM 21 1),
 (sM 22 6),
 (sP 23 (.slc 1 false true) [.t 21, .t 22]),
 (sM 24 7),
 (sC 25 82 [.t 23, .t 24])])
 (.cond (.t 25)
 (.seq
 (.ops [
 (sP 4 .mov [.c .nils]),
 (sP 5 .mov [.c (.bool false)])])
 (.ret [4, 5]))
 .skip))))
 (.ops [
 (sP 26 (.bin .add .ifc) [.t 16, .c (.int .i64 1)]),
 (sM 16 26)]))))
def graph_Graph_Path_L0 : CCode := .bloop 0 [0, 1, 14, 15, 16] [0, 1] graph_Graph_Path_B0

def graph_Graph_Path_B2 : CCode :=
 (.seq
 (.ops [
 (sP 28 (.bin .lss .ifc) [.t 27, .c (.int .i64 2)])])
 (.seq
 (.cond (.t 28)
 .skip
 (.exit 2))
 (.seq
 (.block 3 (some [0, 1, 27])
 (.seq
 (.ops [
 (sM 29 27),
 (sM 8 29)])
 (.seq
 (.ops [
 (sM 31 0),
 (sM 32 1),
 (sP 33 (.iaddr 1) [.t 32, .c (.int .i64 0)]),
 (sH 34 (.load false 1) [.t 33]),
 (sM 35 8),
 (sP 36 (.bld [(.int .i64 0), (.int .i64 0)] [(0, 1), (1, 1)]) [.t 34, .t 35]),
 (sM 37 1),
 (sP 38 (.slc 1 true false) [.t 37, .c (.int .i64 1)]),
 (sC 39 83 [.t 31, .t 36, .t 38]),
 (sM 30 39),
 (sP 40 (.ext 0) [.t 30]),
 (sP 41 (.ext 1) [.t 30]),
 (sM 9 40),
 (sM 10 41)])
 (.seq
 (.ops [
 (sM 42 10)])
 (.cond (.t 42)
 (.seq
 (.ops [
 (sM 43 9),
 (sM 4 43),
 (sP 5 .mov [.c (.bool true)])])
 (.ret [4, 5]))
 .skip)))))
 (.ops [
 (sP 44 (.bin .add .ifc) [.t 27, .c (.int .i64 1)]),
 (sM 27 44)]))))
def graph_Graph_Path_L2 : CCode := .bloop 2 [0, 1, 27] [] graph_Graph_Path_B2
def graph_Graph_Path_C : CCode :=
 (.seq
 (.ops [
 (sP 4 .mov [.c .nils]),
 (sP 5 .mov [.c (.bool false)])])
 (.seq
 (.seq
 (.ops [
 (sM 11 1),
 (sP 12 .len [.t 11]),
 (sP 13 (.bin .lss .ifc) [.t 12, .c (.int .i64 2)])])
 (.cond (.t 13)
 (.seq
 (.ops [
 (sP 4 .mov [.c .nils]),
 (sP 5 .mov [.c (.bool false)])])
 (.ret [4, 5]))
 .skip))
 (.seq
 (.seq
 (.ops [
 (sM 14 1),
 (sP 15 .len [.t 14]),
 (sP 16 .mov [.c (.int .i64 0)])])
 graph_Graph_Path_L0)
 (.seq
 (.seq
 (.ops [
 (sP 27 .mov [.c (.int .i64 0)])])
 graph_Graph_Path_L2)
 (.seq
 (.ops [
 (sP 4 .mov [.c .nils]),
 (sP 5 .mov [.c (.bool false)])])
 (.ret [4, 5]))))))
def graph_Graph_Path_I : FInfo := ⟨(.fz false), 2, graph_Graph_Path_C, [.tmp 4, .tmp 5]⟩
def graph_Graph_Path_A : Ann := ⟨[], [], [(0, [0, 1, 14, 15, 16], [0, 1]), (2, [0, 1, 27], [])], [(1, [0, 1, 14, 15, 16]), (3, [0, 1, 27])], []⟩
abbrev n_graph_Graph_Path : Nat := 68

/-! ### (*balise/graph.Graph).way -/
def graph_Graph_way_B0 : CCode :=
 (.seq
 (.ops [
 (sP 16 (.bin .lss .ifc) [.t 15, .t 14])])
 (.seq
 (.cond (.t 16)
 .skip
 (.exit 0))
 (.seq
 (.block 1 (some [0, 4, 8, 13, 14, 15])
 (.seq
 (.ops [
 (sP 17 (.iaddr 1) [.t 13, .t 15]),
 (sH 18 (.load false 1) [.t 17]),
 (sH 10 (.newh [(.int .i64 0)]) []),
 (sHn (.store 1) [.t 10, .t 18])])
 (.seq
 (.ops [
 (sM 19 0),
 (sH 20 (.load true 2) [.t 4]),
 (sC 21 101 [.t 19, .t 20]),
 (sM 11 21)])
 (.seq
 (.ops [
 (sM 22 11),
 (sP 23 (.mkfn (.func 103) 0) [.t 10]),
 (sC 24 102 [.t 22, .t 23]),
 (sM 12 24)])
 (.seq
 (.seq
 (.ops [
 (sM 25 12),
 (sP 26 (.bin .lss .ifc) [.t 25, .c (.int .i64 0)])])
 (.cond (.t 26)
 (.seq
 (.ops [
 (sP 6 .mov [.c .nils]),
 (sP 7 .mov [.c (.bool false)])])
 (.ret [6, 7]))
 .skip))
 (.seq
 (.ops [
 (sM 27 8),
 (sM 28 0),
 (sH 29 (.load true 2) [.t 4]),
 (sM 30 11),
 (sM 31 12),
 (sP 32 (.iaddr 2) [.t 30, .t 31]),
 (sH 33 (.load true 2) [.t 32]),
 (sC 34 104 [.t 28, .t 29, .t 33]),
 (sH 35 (.app 2 16 [(.int .i64 0), (.bool false)]) [.t 27, .t 34]),
 (sM 8 35)])
 (.ops [
 (sH 36 (.load false 1) [.t 10]),
 (sM 37 11),
 (sM 38 12),
 (sP 39 (.iaddr 2) [.t 37, .t 38]),
 (sP 40 (.faddr 1) [.t 39]),
 (sH 41 (.load false 1) [.t 40]),
 (sP 42 (.bin .sub .ifc) [.c (.int .i64 1), .t 41]),
 (sP 43 (.bld [(.int .i64 0), (.int .i64 0)] [(0, 1), (1, 1)]) [.t 36, .t 42]),
 (sHn (.store 2) [.t 4, .t 43])])))))))
 (.ops [
 (sP 44 (.bin .add .ifc) [.t 15, .c (.int .i64 1)]),
 (sM 15 44)]))))
def graph_Graph_way_L0 : CCode := .bloop 0 [0, 4, 8, 13, 14, 15] [8] graph_Graph_way_B0
def graph_Graph_way_C : CCode :=
 (.seq
 (.ops [
 (sH 4 (.box 4) [.t 1]),
 (sP 6 .mov [.c .nils]),
 (sP 7 .mov [.c (.bool false)])])
 (.seq
 (.ops [
 (sP 8 .mov [.c .nils])])
 (.seq
 (.seq
 (.ops [
 (sM 13 2),
 (sP 14 .len [.t 13]),
 (sP 15 .mov [.c (.int .i64 0)])])
 graph_Graph_way_L0)
 (.seq
 (.ops [
 (sM 45 8),
 (sM 6 45),
 (sP 7 .mov [.c (.bool true)])])
 (.ret [6, 7])))))
def graph_Graph_way_I : FInfo := ⟨(.fz false), 3, graph_Graph_way_C, [.tmp 6, .tmp 7]⟩
def graph_Graph_way_A : Ann := ⟨[10], [], [(0, [0, 4, 8, 13, 14, 15], [8])], [(1, [0, 4, 8, 13, 14, 15])], [4]⟩
abbrev n_graph_Graph_way : Nat := 83

/-! ### (*balise/graph.Graph).Around -/
def graph_Graph_Around_C : CCode :=
 (.seq
 (.ops [
 (sH 3 .boxh [.t 1]),
 (sP 4 .mov [.c .nils])])
 (.seq
 (.ops [
 (sM 11 0),
 (sH 12 (.load true 2) [.t 3]),
 (sC 13 113 [.t 11, .t 12]),
 (sM 10 13),
 (sP 14 (.ext 0) [.t 10]),
 (sP 15 (.ext 1) [.t 10]),
 (sM 5 14),
 (sM 6 15)])
 (.seq
 (.seq
 (.ops [
 (sM 16 6),
 (sP 17 (.un .not) [.t 16])])
 (.cond (.t 17)
 (.seq
 (.ops [
 (sP 4 .mov [.c .nils])])
 (.ret [4]))
 .skip))
 (.seq
 (.ops [
 (sM 18 0),
 (sM 19 5),
 (sC 20 64 [.t 18, .t 19]),
 (sM 7 20)])
 (.seq
 (.seq
 (.ops [
 (sM 21 7),
 (sP 22 (.bin .lss .ifc) [.t 21, .c (.int .i64 0)])])
 (.cond (.t 22)
 (.seq
 (.ops [
 (sM 23 0),
 (sM 24 5),
 (sC 25 42 [.t 23, .t 24]),
 (sP 26 (.mkfn (.func 115) 0) [.t 3]),
 (sC 27 114 [.t 25, .t 26]),
 (sM 8 27)])
 (.seq
 (.seq
 (.ops [
 (sM 28 8),
 (sP 29 .len [.t 28]),
 (sP 30 (.bin .neq .int) [.t 29, .c (.int .i64 1)])])
 (.cond (.t 30)
 (.seq
 (.ops [
 (sP 4 .mov [.c .nils])])
 (.ret [4]))
 .skip))
 (.seq
 (.ops [
 (sM 31 8),
 (sM 4 31)])
 (.ret [4]))))
 .skip))
 (.seq
 (.ops [
 (sM 32 0),
 (sP 33 .nchk [.t 32]),
 (sP 34 (.faddr 0) [.t 33]),
 (sP 35 (.faddr 3) [.t 34]),
 (sH 36 (.load false 1) [.t 35]),
 (sM 37 7),
 (sP 38 (.iaddr 4) [.t 36, .t 37]),
 (sH 39 (.load true 4) [.t 38]),
 (sH 9 (.newl 9 [(.int .i64 0), (.int .i64 0), (.int .i64 0), (.int .i64 0)]) []),
 (sHn (.store 4) [.t 9, .t 39])])
 (.seq
 (.seq
 (.ops [
 (sP 40 (.faddr 0) [.t 3]),
 (sH 41 (.load false 1) [.t 40])])
 (.block 0 (some [])
 (.seq
 (.ops [
 (sP 43 (.faddr 1) [.t 9]),
 (sH 44 (.load false 1) [.t 43]),
 (sP 45 (.bin .eql .int) [.t 41, .t 44]),
 (sM 42 45)])
 (.cond (.t 42)
 (.seq
 (.ops [
 (sM 46 0),
 (sP 47 (.faddr 2) [.t 9]),
 (sH 48 (.load false 1) [.t 47]),
 (sM 49 5),
 (sC 50 117 [.t 46, .t 48, .t 49]),
 (sM 51 0),
 (sP 52 (.faddr 3) [.t 9]),
 (sH 53 (.load false 1) [.t 52]),
 (sM 54 5),
 (sC 55 117 [.t 51, .t 53, .t 54]),
 (sH 56 (.bslF 1 2 [.nils] [(0, 1), (1, 1)]) [.t 50, .t 55]),
 (sC 57 116 [.t 56]),
 (sM 4 57)])
 (.ret [4]))
 (.seq
 (.seq
 (.ops [
 (sP 59 (.faddr 2) [.t 9]),
 (sH 60 (.load false 1) [.t 59]),
 (sP 61 (.bin .eql .int) [.t 41, .t 60]),
 (sM 58 61)])
 (.cond (.t 58)
 .skip
 (.ops [
 (sP 62 (.faddr 3) [.t 9]),
 (sH 63 (.load false 1) [.t 62]),
 (sP 64 (.bin .eql .int) [.t 41, .t 63]),
 (sM 58 64)])))
 (.cond (.t 58)
 (.seq
 (.ops [
 (sM 65 0),
 (sP 66 (.faddr 1) [.t 9]),
 (sH 67 (.load false 1) [.t 66]),
 (sM 68 5),
 (sC 69 117 [.t 65, .t 67, .t 68]),
 (sM 4 69)])
 (.ret [4]))
 .skip))))))
 (.seq
 (.ops [
 (sP 4 .mov [.c .nils])])
 (.ret [4])))))))))
def graph_Graph_Around_I : FInfo := ⟨(.fz false), 2, graph_Graph_Around_C, [.tmp 4]⟩
def graph_Graph_Around_A : Ann := ⟨[3], [], [], [(0, [])], [9]⟩
abbrev n_graph_Graph_Around : Nat := 101

/-! ### slices.IndexFunc[[]balise/api.End,balise/api.End] -/
def slices_IndexFunc_End_B0 : CCode :=
 (.seq
 (.ops [
 (sP 9 (.bin .lss .ifc) [.t 8, .t 7])])
 (.seq
 (.cond (.t 9)
 .skip
 (.exit 0))
 (.seq
 (.block 1 (some [0, 1, 7, 8])
 (.seq
 (.ops [
 (sM 10 8),
 (sM 5 10)])
 (.seq
 (.ops [
 (sM 11 1),
 (sM 12 0),
 (sM 13 5),
 (sP 14 (.iaddr 2) [.t 12, .t 13]),
 (sH 15 (.load true 2) [.t 14]),
 ⟨(some 16), .call, [.t 11, .t 15], none⟩])
 (.cond (.t 16)
 (.seq
 (.ops [
 (sM 17 5),
 (sM 4 17)])
 (.ret [4]))
 .skip))))
 (.ops [
 (sP 18 (.bin .add .ifc) [.t 8, .c (.int .i64 1)]),
 (sM 8 18)]))))
def slices_IndexFunc_End_L0 : CCode := .bloop 0 [0, 1, 7, 8] [] slices_IndexFunc_End_B0
def slices_IndexFunc_End_C : CCode :=
 (.seq
 (.ops [
 (sP 4 .mov [.c (.int .i64 0)])])
 (.seq
 (.seq
 (.ops [
 (sM 6 0),
 (sP 7 .len [.t 6]),
 (sP 8 .mov [.c (.int .i64 0)])])
 slices_IndexFunc_End_L0)
 (.seq
 (.ops [
 (sP 4 .mov [.c (.int .i64 (-1))])])
 (.ret [4]))))
def slices_IndexFunc_End_I : FInfo := ⟨(.fz false), 2, slices_IndexFunc_End_C, [.tmp 4]⟩
def slices_IndexFunc_End_A : Ann := ⟨[], [], [(0, [0, 1, 7, 8], [])], [(1, [0, 1, 7, 8])], []⟩
abbrev n_slices_IndexFunc_End : Nat := 102

/-! ### (*balise/graph.Graph).way$1 -/
def graph_Graph_way_1_C : CCode :=
 (.seq
 (.ops [
 (sH 2 (.box 2) [.t 0]),
 (sP 3 .mov [.c (.bool false)])])
 (.seq
 (.ops [
 (sP 4 (.faddr 0) [.t 2]),
 (sH 5 (.load false 1) [.t 4]),
 (sH 6 (.load false 1) [.t 1]),
 (sP 7 (.bin .eql .int) [.t 5, .t 6]),
 (sM 3 7)])
 (.ret [3])))
def graph_Graph_way_1_I : FInfo := ⟨(.fz false), 2, graph_Graph_way_1_C, [.tmp 3]⟩
def graph_Graph_way_1_A : Ann := ⟨[], [], [], [], [2]⟩
abbrev n_graph_Graph_way_1 : Nat := 103

/-! ### (*balise/graph.Graph).need -/
def graph_Graph_need_C : CCode :=
 (.seq
 (.ops [
 (sH 4 (.box 4) [.t 1]),
 (sH 5 (.box 5) [.t 2]),
 (sP 6 .mov [.c .nils])])
 (.seq
 (.ops [
 (sM 12 0),
 (sH 13 (.load true 2) [.t 4]),
 (sC 14 113 [.t 12, .t 13]),
 (sM 11 14),
 (sP 15 (.ext 0) [.t 11]),
 (sP 16 (.ext 1) [.t 11]),
 (sM 7 15),
 (sM 8 16)])
 (.seq
 (.ops [
 (sM 17 0),
 (sM 18 7),
 (sC 19 64 [.t 17, .t 18]),
 (sM 9 19)])
 (.seq
 (.seq
 (.ops [
 (sM 20 9),
 (sP 21 (.bin .lss .ifc) [.t 20, .c (.int .i64 0)])])
 (.cond (.t 21)
 (.seq
 (.ops [
 (sP 6 .mov [.c .nils])])
 (.ret [6]))
 .skip))
 (.seq
 (.ops [
 (sP 22 (.faddr 0) [.t 5]),
 (sH 23 (.load false 1) [.t 22]),
 (sM 10 23)])
 (.seq
 (.seq
 (.ops [
 (sM 24 0),
 (sP 25 .nchk [.t 24]),
 (sP 26 (.faddr 0) [.t 25]),
 (sP 27 (.faddr 3) [.t 26]),
 (sH 28 (.load false 1) [.t 27]),
 (sM 29 9),
 (sP 30 (.iaddr 4) [.t 28, .t 29]),
 (sP 31 (.faddr 1) [.t 30]),
 (sH 32 (.load false 1) [.t 31]),
 (sM 33 10),
 (sP 34 (.bin .eql .int) [.t 32, .t 33])])
 (.cond (.t 34)
 (.ops [
 (sP 35 (.faddr 0) [.t 4]),
 (sH 36 (.load false 1) [.t 35]),
 (sM 10 36)])
 .skip))
 (.seq
 (.ops [
 (sM 37 9),
 (sM 38 0),
 (sP 39 .nchk [.t 38]),
 (sP 40 (.faddr 0) [.t 39]),
 (sP 41 (.faddr 3) [.t 40]),
 (sH 42 (.load false 1) [.t 41]),
 (sM 43 9),
 (sP 44 (.iaddr 4) [.t 42, .t 43]),
 (sP 45 (.faddr 3) [.t 44]),
 (sH 46 (.load false 1) [.t 45]),
 (sM 47 10),
 (sP 48 (.bin .eql .int) [.t 46, .t 47]),
 (sP 49 (.bld [(.int .i64 0), (.bool false)] [(0, 1), (1, 1)]) [.t 37, .t 48]),
 (sH 50 (.bslF 2 1 [(.int .i64 0), (.bool false)] [(0, 2)]) [.t 49]),
 (sM 6 50)])
 (.ret [6]))))))))
def graph_Graph_need_I : FInfo := ⟨(.fz false), 3, graph_Graph_need_C, [.tmp 6]⟩
def graph_Graph_need_A : Ann := ⟨[], [], [], [], [4, 5]⟩
abbrev n_graph_Graph_need : Nat := 104

/-! ### (*balise/graph.Graph).node -/
def graph_Graph_node_C : CCode :=
 (.seq
 (.ops [
 (sH 3 (.box 3) [.t 1]),
 (sP 4 .mov [.c (.int .i64 0)]),
 (sP 5 .mov [.c (.bool false)])])
 (.seq
 (.ops [
 (sM 9 0),
 (sP 10 (.faddr 0) [.t 3]),
 (sH 11 (.load false 1) [.t 10]),
 (sC 12 60 [.t 9, .t 11]),
 (sM 8 12),
 (sP 13 (.ext 0) [.t 8]),
 (sP 14 (.ext 1) [.t 8]),
 (sH 6 (.newl 6 [(.int .i64 0), (.int .i64 0), (.int .i64 0)]) []),
 (sHn (.store 3) [.t 6, .t 13]),
 (sM 7 14)])
 (.seq
 (.block 0 (some [])
 (.seq
 (.ops [
 (sM 16 7),
 (sM 17 16),
 (sG (sP 18 (.faddr 1) [.t 3]) 17 true),
 (sG (sH 19 (.load false 1) [.t 18]) 17 true),
 (sG (sP 20 (.bin .eql .int) [.t 19, .c (.int .i64 0)]) 17 true),
 (sP 21 .pick [.t 17, .t 20, .c (.bool false)]),
 (sM 15 21)])
 (.cond (.t 15)
 (.seq
 (.ops [
 (sP 22 (.faddr 1) [.t 6]),
 (sH 23 (.load false 1) [.t 22]),
 (sM 4 23),
 (sP 5 .mov [.c (.bool true)])])
 (.ret [4, 5]))
 (.seq
 (.ops [
 (sM 25 7),
 (sM 26 25),
 (sG (sP 27 (.faddr 1) [.t 3]) 26 true),
 (sG (sH 28 (.load false 1) [.t 27]) 26 true),
 (sG (sP 29 (.bin .eql .int) [.t 28, .c (.int .i64 1)]) 26 true),
 (sP 30 .pick [.t 26, .t 29, .c (.bool false)]),
 (sM 24 30)])
 (.cond (.t 24)
 (.seq
 (.ops [
 (sP 31 (.faddr 2) [.t 6]),
 (sH 32 (.load false 1) [.t 31]),
 (sM 4 32),
 (sP 5 .mov [.c (.bool true)])])
 (.ret [4, 5]))
 .skip)))))
 (.seq
 (.ops [
 (sP 4 .mov [.c (.int .i64 0)]),
 (sP 5 .mov [.c (.bool false)])])
 (.ret [4, 5])))))
def graph_Graph_node_I : FInfo := ⟨(.fz false), 2, graph_Graph_node_C, [.tmp 4, .tmp 5]⟩
def graph_Graph_node_A : Ann := ⟨[], [], [], [(0, [])], [3, 6]⟩
abbrev n_graph_Graph_node : Nat := 113

/-! ### slices.DeleteFunc[[]balise/api.End,balise/api.End] -/
def slices_DeleteFunc_End_B0 : CCode :=
 (.seq
 (.seq
 (.ops [
 (sM 16 6),
 (sM 17 0),
 (sP 18 .len [.t 17]),
 (sP 19 (.bin .lss .ifc) [.t 16, .t 18])])
 (.cond (.t 19)
 .skip
 (.exit 0)))
 (.seq
 (.block 1 (some [0, 1, 5, 6])
 (.seq
 (.ops [
 (sM 22 0),
 (sM 23 6),
 (sP 24 (.iaddr 2) [.t 22, .t 23]),
 (sH 25 (.load true 2) [.t 24]),
 (sH 7 (.newl 7 [(.int .i64 0), (.int .i64 0)]) []),
 (sHn (.store 2) [.t 7, .t 25])])
 (.seq
 (.ops [
 (sM 26 1),
 (sH 27 (.load true 2) [.t 7]),
 ⟨(some 28), .call, [.t 26, .t 27], none⟩,
 (sP 29 (.un .not) [.t 28])])
 (.cond (.t 29)
 (.seq
 (.ops [
 (sM 30 0),
 (sM 31 5),
 (sH 32 (.load true 2) [.t 7]),
 (sP 33 (.iaddr 2) [.t 30, .t 31]),
 (sHn (.store 2) [.t 33, .t 32])])
 (.ops [
 (sM 34 5),
 (sP 35 (.bin .add .ifc) [.t 34, .c (.int .i64 1)]),
 (sM 5 35)]))
 .skip))))
 (.ops [
 (sM 20 6),
 (sP 21 (.bin .add .ifc) [.t 20, .c (.int .i64 1)]),
 (sM 6 21)])))
def slices_DeleteFunc_End_L0 : CCode := .bloop 0 [0, 1, 5, 6] [0, 5] slices_DeleteFunc_End_B0
def slices_DeleteFunc_End_C : CCode :=
 (.seq
 (.ops [
 (sP 4 .mov [.c .nils])])
 (.seq
 (.ops [
 (sM 8 0),
 (sM 9 1),
 (sC 10 102 [.t 8, .t 9]),
 (sM 5 10)])
 (.seq
 (.seq
 (.ops [
 (sM 11 5),
 (sP 12 (.bin .eql .int) [.t 11, .c (.int .i64 (-1))])])
 (.cond (.t 12)
 (.seq
 (.ops [
 (sM 13 0),
 (sM 4 13)])
 (.ret [4]))
 .skip))
 (.seq
 (.seq
 (.ops [
 (sM 14 5),
 (sP 15 (.bin .add .ifc) [.t 14, .c (.int .i64 1)]),
 (sM 6 15)])
 slices_DeleteFunc_End_L0)
 (.seq
 (.ops [
 (sM 36 0),
 (sM 37 5),
 (sP 38 (.slc 2 true false) [.t 36, .t 37]),
 (sHn (.clear 2 [(.int .i64 0), (.int .i64 0)]) [.t 38])])
 (.seq
 (.ops [
 (sM 39 0),
 (sM 40 5),
 (sP 41 (.slc 2 false true) [.t 39, .t 40]),
 (sM 4 41)])
 (.ret [4])))))))
def slices_DeleteFunc_End_I : FInfo := ⟨.ref, 2, slices_DeleteFunc_End_C, [.tmp 4]⟩
def slices_DeleteFunc_End_A : Ann := ⟨[], [], [(0, [0, 1, 5, 6], [0, 5])], [(1, [0, 1, 5, 6])], [7]⟩
abbrev n_slices_DeleteFunc_End : Nat := 114

/-! ### (*balise/graph.Graph).Around$1 -/
def graph_Graph_Around_1_C : CCode :=
 (.seq
 (.ops [
 (sH 2 (.box 2) [.t 0]),
 (sP 3 .mov [.c (.bool false)])])
 (.seq
 (.ops [
 (sH 4 (.load true 2) [.t 2]),
 (sH 5 (.load true 2) [.t 1]),
 (sP 6 (.bin .eql (.parts [(0, false, 1, .int), (1, false, 1, .int)])) [.t 4, .t 5]),
 (sM 3 6)])
 (.ret [3])))
def graph_Graph_Around_1_I : FInfo := ⟨(.fz false), 2, graph_Graph_Around_1_C, [.tmp 3]⟩
def graph_Graph_Around_1_A : Ann := ⟨[], [], [], [], [2]⟩
abbrev n_graph_Graph_Around_1 : Nat := 115

/-! ### slices.Concat[[]balise/api.End,balise/api.End] -/
def slices_Concat_End_B0 : CCode :=
 (.seq
 (.ops [
 (sP 12 (.bin .lss .ifc) [.t 11, .t 10])])
 (.seq
 (.cond (.t 12)
 .skip
 (.exit 0))
 (.seq
 (.block 1 (some [0, 3, 9, 10, 11])
 (.seq
 (.ops [
 (sP 13 (.iaddr 1) [.t 9, .t 11]),
 (sH 14 (.load false 1) [.t 13]),
 (sM 5 14)])
 (.seq
 (.ops [
 (sM 15 3),
 (sM 16 5),
 (sP 17 .len [.t 16]),
 (sP 18 (.bin .add .ifc) [.t 15, .t 17]),
 (sM 3 18)])
 (.seq
 (.ops [
 (sM 19 3),
 (sP 20 (.bin .lss .ifc) [.t 19, .c (.int .i64 0)])])
 (.cond (.t 20)
 bad
 .skip)))))
 (.ops [
 (sP 22 (.bin .add .ifc) [.t 11, .c (.int .i64 1)]),
 (sM 11 22)]))))
def slices_Concat_End_L0 : CCode := .bloop 0 [0, 3, 9, 10, 11] [0, 3] slices_Concat_End_B0

def slices_Concat_End_B2 : CCode :=
 (.seq
 (.ops [
 (sP 28 (.bin .lss .ifc) [.t 27, .t 26])])
 (.seq
 (.cond (.t 28)
 .skip
 (.exit 2))
 (.seq
 (.block 3 (some [6, 25, 26, 27])
 (.seq
 (.ops [
 (sP 29 (.iaddr 1) [.t 25, .t 27]),
 (sH 30 (.load false 1) [.t 29]),
 (sM 8 30)])
 (.ops [
 (sM 31 6),
 (sM 32 8),
 (sH 33 (.app 2 16 [(.int .i64 0), (.int .i64 0)]) [.t 31, .t 32]),
 (sM 6 33)])))
 (.ops [
 (sP 34 (.bin .add .ifc) [.t 27, .c (.int .i64 1)]),
 (sM 27 34)]))))
def slices_Concat_End_L2 : CCode := .bloop 2 [6, 25, 26, 27] [6] slices_Concat_End_B2
def slices_Concat_End_C : CCode :=
 (.seq
 (.ops [
 (sP 2 .mov [.c .nils])])
 (.seq
 (.ops [
 (sP 3 .mov [.c (.int .i64 0)])])
 (.seq
 (.seq
 (.ops [
 (sM 9 0),
 (sP 10 .len [.t 9]),
 (sP 11 .mov [.c (.int .i64 0)])])
 slices_Concat_End_L0)
 (.seq
 (.ops [
 (sM 23 3),
 (sC 24 119 [.c .nils, .t 23]),
 (sM 6 24)])
 (.seq
 (.seq
 (.ops [
 (sM 25 0),
 (sP 26 .len [.t 25]),
 (sP 27 .mov [.c (.int .i64 0)])])
 slices_Concat_End_L2)
 (.seq
 (.ops [
 (sM 35 6),
 (sM 2 35)])
 (.ret [2])))))))
def slices_Concat_End_I : FInfo := ⟨(.fz false), 1, slices_Concat_End_C, [.tmp 2]⟩
def slices_Concat_End_A : Ann := ⟨[], [], [(0, [0, 3, 9, 10, 11], [0, 3]), (2, [6, 25, 26, 27], [6])], [(1, [0, 3, 9, 10, 11]), (3, [6, 25, 26, 27])], []⟩
abbrev n_slices_Concat_End : Nat := 116

/-! ### (*balise/graph.Graph).at -/
def graph_Graph_at_B0 : CCode :=
 (.seq
 (.ops [
 (sP 14 (.bin .lss .ifc) [.t 13, .t 12])])
 (.seq
 (.cond (.t 14)
 .skip
 (.exit 0))
 (.seq
 (.block 1 (some [1, 11, 12, 13])
 (.seq
 (.ops [
 (sP 15 (.iaddr 2) [.t 11, .t 13]),
 (sH 16 (.load true 2) [.t 15]),
 (sH 8 (.newl 8 [(.int .i64 0), (.int .i64 0)]) []),
 (sHn (.store 2) [.t 8, .t 16])])
 (.seq
 (.ops [
 (sP 17 (.faddr 0) [.t 8]),
 (sH 18 (.load false 1) [.t 17]),
 (sM 19 1),
 (sP 20 (.bin .eql .int) [.t 18, .t 19])])
 (.cond (.t 20)
 (.seq
 (.ops [
 (sH 21 (.load true 2) [.t 8]),
 (sH 22 (.bslF 2 1 [(.int .i64 0), (.int .i64 0)] [(0, 2)]) [.t 21]),
 (sM 6 22)])
 (.ret [6]))
 .skip))))
 (.ops [
 (sP 23 (.bin .add .ifc) [.t 13, .c (.int .i64 1)]),
 (sM 13 23)]))))
def graph_Graph_at_L0 : CCode := .bloop 0 [1, 11, 12, 13] [] graph_Graph_at_B0
def graph_Graph_at_C : CCode :=
 (.seq
 (.ops [
 (sP 6 .mov [.c .nils])])
 (.seq
 (.seq
 (.ops [
 (sM 9 0),
 (sM 10 2),
 (sC 11 42 [.t 9, .t 10]),
 (sP 12 .len [.t 11]),
 (sP 13 .mov [.c (.int .i64 0)])])
 graph_Graph_at_L0)
 (.seq
 (.ops [
 (sP 6 .mov [.c .nils])])
 (.ret [6]))))
def graph_Graph_at_I : FInfo := ⟨(.fz false), 3, graph_Graph_at_C, [.tmp 6]⟩
def graph_Graph_at_A : Ann := ⟨[], [], [(0, [1, 11, 12, 13], [])], [(1, [1, 11, 12, 13])], [8]⟩
abbrev n_graph_Graph_at : Nat := 117

/-! ### slices.Grow[[]balise/api.End,balise/api.End] -/
def slices_Grow_End_C : CCode :=
 (.seq
 (.ops [
 (sP 4 .mov [.c .nils])])
 (.seq
 (.seq
 (.ops [
 (sM 5 1),
 (sP 6 (.bin .lss .ifc) [.t 5, .c (.int .i64 0)])])
 (.cond (.t 6)
 bad
 .skip))
 (.seq
 (.seq
 (.ops [
 (sM 8 1),
 (sM 9 0),
 (sP 10 .cap [.t 9]),
 (sM 11 0),
 (sP 12 .len [.t 11]),
 (sP 13 (.bin .sub .ifc) [.t 10, .t 12]),
 (sP 14 (.bin .sub .ifc) [.t 8, .t 13]),
 (sM 1 14)])
 (.seq
 (.ops [
 (sM 15 1),
 (sP 16 (.bin .gtr .ifc) [.t 15, .c (.int .i64 0)])])
 (.cond (.t 16)
 (.ops [
 (sM 17 0),
 (sM 18 0),
 (sP 19 .cap [.t 18]),
 (sP 20 (.slc 2 false true) [.t 17, .t 19]),
 (sM 21 1),
 (sH 22 (.appz 2 16 [(.int .i64 0), (.int .i64 0)]) [.t 20, .t 21]),
 (sM 23 0),
 (sP 24 .len [.t 23]),
 (sP 25 (.slc 2 false true) [.t 22, .t 24]),
 (sM 0 25)])
 .skip)))
 (.seq
 (.ops [
 (sM 26 0),
 (sM 4 26)])
 (.ret [4])))))
def slices_Grow_End_I : FInfo := ⟨.ref, 2, slices_Grow_End_C, [.tmp 4]⟩
def slices_Grow_End_A : Ann := ⟨[], [], [], [], []⟩
abbrev n_slices_Grow_End : Nat := 119

end Go.Proofs.YtlhjpcgfkkhogaaGreat.Zt
