/- PRINTED: the functions of the program, as the machine needs them. -/
import Derived.Test.YtomalcfghdaghaaGreatDoorAmTab
import Derived.Test.YtomalcfghdaghaaGreatDoorAmX
import Derived.Test.YtomalcfghdaghaaGreatDoorLib0
set_option linter.unusedVariables false
set_option maxRecDepth 100000
set_option maxHeartbeats 0
namespace Go.Proofs.YtomalcfghdaghaaGreatDoor
open Go Go.AM
def hint3 : Hint := { }
noncomputable def body3 : Code := match Tryz.f3.body with | some c => c | none => .skip
noncomputable def fn3 : Fun := { body := body3, ntmps := 19, results := [.tmp 4], types := [4], hint := hint3, keep := .drop }
def E3 : Env := { T := tiOf, hint := hint3 }
def hint4 : Hint := { eqs := [83], dead := [(5, [0, 4, 7, 8, 9, 10, 11, 12, 13, 14, 15, 16, 17, 18, 19, 20, 21, 22, 23, 24, 25, 26, 27, 29, 30, 31, 32, 36, 37, 38, 39, 40, 41, 42, 43, 44, 45, 46, 47, 48, 49, 50, 51, 52, 53, 54, 55, 56, 57, 58, 59]), (10, [33, 34, 35, 36])], joins := [10] }
noncomputable def body4 : Code := match Tryz.f4.body with | some c => c | none => .skip
noncomputable def fn4 : Fun := { body := body4, ntmps := 91, results := [.tmp 4], types := [4], hint := hint4, keep := .drop }
def E4 : Env := { T := tiOf, hint := hint4 }
def hint9 : Hint := { dead := [(2, [0, 2, 4, 5, 6, 7, 8, 9, 10, 11, 12, 13, 14, 15, 16, 17, 18, 19, 20, 21, 22, 23, 24, 25, 26, 27]), (6, [3, 4, 5, 6, 7, 8])], joins := [6] }
noncomputable def body9 : Code := match Tryz.f9.body with | some c => c | none => .skip
noncomputable def fn9 : Fun := { body := body9, ntmps := 32, results := [.tmp 2], types := [4], hint := hint9, keep := .drop }
def E9 : Env := { T := tiOf, hint := hint9 }
def hint10 : Hint := { dead := [(5, [0, 1, 2, 8, 9, 10, 12, 13, 14, 15, 16, 17, 18, 19, 20, 21, 22, 54]), (10, [26, 27, 28, 29, 30, 31, 32, 33, 34, 35, 36, 37, 38, 39]), (12, [7, 26, 27, 28, 29, 30, 31, 32, 40, 41, 42, 43, 44, 45, 46, 47, 48, 49, 50, 51, 52, 53]), (13, [23, 24, 25, 26]), (15, [55, 56, 57, 58, 59])], joins := [10, 12, 13, 15] }
noncomputable def body10 : Code := match Tryz.f10.body with | some c => c | none => .skip
noncomputable def fn10 : Fun := { body := body10, ntmps := 61, results := [.cell 4 27], types := [27], hint := hint10, keep := .drop }
def E10 : Env := { T := tiOf, hint := hint10 }
def hint11 : Hint := { dead := [(5, [0, 8, 9, 10, 12, 18, 19]), (6, [7, 46, 47, 48, 49]), (10, [13, 14, 15, 16, 17, 20, 21, 22, 23, 24, 25, 26, 27, 28, 29, 30, 31, 32, 33, 34, 35, 36, 37, 38, 39, 40, 41, 42, 43, 44, 45]), (12, [6, 13, 14, 15, 16, 17]), (14, [50, 51, 52, 53, 54])], joins := [6, 10, 12, 14] }
noncomputable def body11 : Code := match Tryz.f11.body with | some c => c | none => .skip
noncomputable def fn11 : Fun := { body := body11, ntmps := 69, results := [.cell 4 27], types := [27], hint := hint11, keep := .drop }
def E11 : Env := { T := tiOf, hint := hint11 }
def hint12 : Hint := { }
noncomputable def body12 : Code := match Tryz.f12.body with | some c => c | none => .skip
noncomputable def fn12 : Fun := { body := body12, ntmps := 43, results := [.tmp 0], types := [4], hint := hint12, keep := .drop }
def E12 : Env := { T := tiOf, hint := hint12 }
def hint13 : Hint := { dead := [(6, [0, 2, 4, 5, 6, 7, 8, 9, 10, 11, 12, 13, 14, 15, 16, 17, 18, 19, 20, 21, 22, 23, 24, 25, 26, 27, 28, 29, 30, 31, 32, 33, 34, 35, 36, 37, 38, 39, 40, 41, 42, 43, 44, 45, 46, 47, 48, 49, 50, 51, 52, 53, 54, 55, 56, 57, 58, 59, 60, 61, 62, 63, 65, 66, 67, 68, 69, 70, 71, 72, 73, 74, 75, 76, 77, 78, 79, 80, 81])] }
noncomputable def body13 : Code := match Tryz.f13.body with | some c => c | none => .skip
noncomputable def fn13 : Fun := { body := body13, ntmps := 82, results := [.tmp 2], types := [31], hint := hint13, keep := .drop }
def E13 : Env := { T := tiOf, hint := hint13 }
def hint14 : Hint := { eqs := [64], dead := [(12, [0, 2, 6, 7, 8, 9, 10, 11, 12, 13, 14, 15, 16, 17, 18, 19, 20, 21, 22, 23, 24, 25, 26, 27, 28, 29, 30, 31, 32, 33, 34, 35, 36, 37, 38, 39, 40, 41, 42, 43, 44, 45, 46, 50, 51, 52, 53, 54, 55, 56, 57, 58, 59, 61, 62, 63, 64, 65, 66, 67, 68, 69, 70])], reH := [10, 20] }
noncomputable def body14 : Code := match Tryz.f14.body with | some c => c | none => .skip
noncomputable def fn14 : Fun := { body := body14, ntmps := 71, results := [.tmp 2], types := [31], hint := hint14, keep := .drop }
def E14 : Env := { T := tiOf, hint := hint14 }
def hint30 : Hint := { dead := [(4, [0, 1, 4, 6, 7, 8, 9, 10, 11, 12, 13, 14, 15, 16, 17, 18, 19, 20, 21, 22, 23, 24, 25, 26, 27, 28, 29, 30, 31, 32, 33, 34, 35, 36, 37, 38, 39, 40, 41, 42, 43, 44, 45, 46, 47, 48, 49, 50, 51, 52, 53, 54, 55, 56, 57, 58])] }
noncomputable def body30 : Code := match Tryz.f30.body with | some c => c | none => .skip
noncomputable def fn30 : Fun := { body := body30, ntmps := 59, results := [.tmp 4], types := [4], hint := hint30, keep := .drop }
def E30 : Env := { T := tiOf, hint := hint30 }
def hint36 : Hint := { dead := [(2, [2, 4, 5, 6, 7, 8, 9, 10, 11, 12, 13, 14, 15, 16, 17, 18, 19, 20, 21, 22, 23, 24, 25]), (6, [3, 4, 5, 6, 7])], joins := [6] }
noncomputable def body36 : Code := match Tryz.f36.body with | some c => c | none => .skip
noncomputable def fn36 : Fun := { body := body36, ntmps := 29, results := [.tmp 2], types := [4], hint := hint36, keep := .drop }
def E36 : Env := { T := tiOf, hint := hint36 }
def hint37 : Hint := { dead := [(10, [0, 2, 3, 4, 5, 6, 7, 8, 9, 10, 11, 12, 13, 14, 15, 16, 17, 18, 19, 20, 21, 22, 23, 24, 25, 26, 27, 28, 29, 30, 31, 32, 33, 34, 35, 36, 37, 38, 39, 40, 41, 42, 43, 44, 48, 49, 50, 51, 52, 53, 54, 55, 56, 57, 59, 60, 61, 62, 63, 64, 65, 66, 67, 68, 69, 70, 71, 72])] }
noncomputable def body37 : Code := match Tryz.f37.body with | some c => c | none => .skip
noncomputable def fn37 : Fun := { body := body37, ntmps := 73, results := [.tmp 2], types := [31], hint := hint37, keep := .drop }
def E37 : Env := { T := tiOf, hint := hint37 }
def hint39 : Hint := { esc := [4], eqs := [16, 37], dead := [(6, [0, 1, 2, 3, 6, 7, 8, 9, 10, 11, 12, 13, 14, 15, 16, 17, 18, 19, 20, 24, 25, 26, 27, 28, 29, 30, 31, 32, 33, 34, 35, 36, 37, 38, 39, 40, 41]), (10, [21, 22, 23, 24])], joins := [10], bld := [(126, 5)] }
noncomputable def body39 : Code := match Tryz.f39.body with | some c => c | none => .skip
noncomputable def fn39 : Fun := { body := body39, ntmps := 44, results := [.tmp 2, .tmp 3], types := [9, 31], hint := hint39, keep := .drop }
def E39 : Env := { T := tiOf, hint := hint39 }
def hint40 : Hint := { eqs := [2] }
noncomputable def body40 : Code := match Tryz.f40.body with | some c => c | none => .skip
noncomputable def fn40 : Fun := { body := body40, ntmps := 4, results := [.cell 0 43], types := [43], hint := hint40, keep := .drop }
def E40 : Env := { T := tiOf, hint := hint40 }
def hint41 : Hint := { }
noncomputable def body41 : Code := match Tryz.f41.body with | some c => c | none => .skip
noncomputable def fn41 : Fun := { body := body41, ntmps := 40, results := [.cell 2 43, .tmp 3], types := [43, 31], hint := hint41, keep := .drop }
def E41 : Env := { T := tiOf, hint := hint41 }
def hint42 : Hint := { }
noncomputable def body42 : Code := match Tryz.f42.body with | some c => c | none => .skip
noncomputable def fn42 : Fun := { body := body42, ntmps := 48, results := [.tmp 4], types := [31], hint := hint42, keep := .drop }
def E42 : Env := { T := tiOf, hint := hint42 }
def hint43 : Hint := { }
noncomputable def body43 : Code := match Tryz.f43.body with | some c => c | none => .skip
noncomputable def fn43 : Fun := { body := body43, ntmps := 20, results := [.tmp 4], types := [3], hint := hint43, keep := .drop }
def E43 : Env := { T := tiOf, hint := hint43 }
def hint44 : Hint := { dead := [(4, [2, 4, 5, 6, 7, 8, 9, 10, 11, 12, 13, 14, 15, 16, 17, 18, 19, 20, 21, 22, 44, 45, 46, 47, 48, 49, 50, 51, 52, 53, 54, 55, 56, 57, 58, 59, 60, 61, 62, 63, 64, 65, 66]), (8, [3, 25, 26, 27, 28, 29, 30, 31, 32, 33, 34, 35, 36, 37, 38, 39, 40, 41, 42, 43])], joins := [8] }
noncomputable def body44 : Code := match Tryz.f44.body with | some c => c | none => .skip
noncomputable def fn44 : Fun := { body := body44, ntmps := 67, results := [.tmp 2], types := [4], hint := hint44, keep := .drop }
def E44 : Env := { T := tiOf, hint := hint44 }
def hint45 : Hint := { }
noncomputable def body45 : Code := match Tryz.f45.body with | some c => c | none => .skip
noncomputable def fn45 : Fun := { body := body45, ntmps := 60, results := [.tmp 6], types := [31], hint := hint45, keep := .drop }
def E45 : Env := { T := tiOf, hint := hint45 }
def hint80 : Hint := { }
noncomputable def body80 : Code := match Tryz.f80.body with | some c => c | none => .skip
noncomputable def fn80 : Fun := { body := body80, ntmps := 46, results := [.tmp 4], types := [31], hint := hint80, keep := .drop }
def E80 : Env := { T := tiOf, hint := hint80 }
def hint81 : Hint := { eqs := [15] }
noncomputable def body81 : Code := match Tryz.f81.body with | some c => c | none => .skip
noncomputable def fn81 : Fun := { body := body81, ntmps := 17, results := [.tmp 4], types := [3], hint := hint81, keep := .drop }
def E81 : Env := { T := tiOf, hint := hint81 }
def hint83 : Hint := { dead := [(2, [1, 2, 9, 10, 11, 12, 16, 17, 18, 19, 20, 21, 22, 23, 24, 25]), (7, [13, 14, 15, 16])], joins := [7] }
noncomputable def body83 : Code := match Tryz.f83.body with | some c => c | none => .skip
noncomputable def fn83 : Fun := { body := body83, ntmps := 33, results := [], types := [], hint := hint83, keep := .keep }
def E83 : Env := { T := tiOf, hint := hint83 }
def hint84 : Hint := { }
noncomputable def body84 : Code := match Tryz.f84.body with | some c => c | none => .skip
noncomputable def fn84 : Fun := { body := body84, ntmps := 8, results := [.tmp 2], types := [9], hint := hint84, keep := .drop }
def E84 : Env := { T := tiOf, hint := hint84 }
def hint86 : Hint := { }
noncomputable def body86 : Code := match Tryz.f86.body with | some c => c | none => .skip
noncomputable def fn86 : Fun := { body := body86, ntmps := 22, results := [.tmp 2, .tmp 3], types := [9, 31], hint := hint86, keep := .drop }
def E86 : Env := { T := tiOf, hint := hint86 }
def hint87 : Hint := { esc := [2, 3, 4, 5], eqs := [75], dead := [(5, [0, 13, 14]), (15, [0, 5, 13, 14])], rid := [(5, 8700)], joins := [15] }
noncomputable def body87 : Code := match Tryz.f87.body with | some c => c | none => .skip
noncomputable def fn87 : Fun := { body := body87, ntmps := 78, results := [.cell 2 43, .cell 3 4], types := [43, 4], hint := hint87, keep := .drop }
def E87 : Env := { T := tiOf, hint := hint87 }
def ER87 : Env := { T := tiOf, hint := hint87, rnd := true }
noncomputable def rb8700 : Code := subc body87 [1, 1, 1, 0, 1, 0, 1]
noncomputable def L8700 : LoopC := ⟨8700, [15], subc body87 [1, 1, 1, 0, 1, 0, 0], rb8700⟩
def hint88 : Hint := { dead := [(4, [2, 4, 5, 6, 7, 8, 9, 10, 11, 12, 13, 14, 15, 16, 17, 18, 19, 20, 21, 22, 23, 24, 25, 26, 27, 28, 29, 30, 31, 32, 33, 34, 35, 36, 37, 38, 39, 40, 41, 42, 43, 44, 45, 46, 47, 48])] }
noncomputable def body88 : Code := match Tryz.f88.body with | some c => c | none => .skip
noncomputable def fn88 : Fun := { body := body88, ntmps := 49, results := [.tmp 2], types := [31], hint := hint88, keep := .drop }
def E88 : Env := { T := tiOf, hint := hint88 }
def hint89 : Hint := { }
noncomputable def body89 : Code := match Tryz.f89.body with | some c => c | none => .skip
noncomputable def fn89 : Fun := { body := body89, ntmps := 9, results := [.tmp 2], types := [4], hint := hint89, keep := .drop }
def E89 : Env := { T := tiOf, hint := hint89 }
def hint90 : Hint := { }
noncomputable def body90 : Code := match Tryz.f90.body with | some c => c | none => .skip
noncomputable def fn90 : Fun := { body := body90, ntmps := 43, results := [.tmp 2], types := [31], hint := hint90, keep := .drop }
def E90 : Env := { T := tiOf, hint := hint90 }
def hint91 : Hint := { dead := [(2, [4, 6, 7, 8, 9, 10, 11, 12, 13, 14, 15, 16, 17, 18, 19, 20, 21, 22, 23, 24, 25, 26, 27, 28, 29, 30, 31, 32, 34, 35, 36, 37, 38, 39, 40, 41, 42, 43, 44, 45, 46]), (10, [5, 8, 9, 10, 11, 12, 13, 14, 15, 16, 17])], joins := [10] }
noncomputable def body91 : Code := match Tryz.f91.body with | some c => c | none => .skip
noncomputable def fn91 : Fun := { body := body91, ntmps := 58, results := [.tmp 4], types := [3], hint := hint91, keep := .drop }
def E91 : Env := { T := tiOf, hint := hint91 }
def hint122 : Hint := { dead := [(4, [2, 3, 4, 5, 6, 7, 11, 12, 13, 14, 15, 16, 17, 18, 19, 20, 21, 22, 23, 24, 25, 26, 27, 28, 29, 30, 31, 32, 33, 34, 35, 36, 37, 38, 39, 40, 41, 42, 43])] }
noncomputable def body122 : Code := match Tryz.f122.body with | some c => c | none => .skip
noncomputable def fn122 : Fun := { body := body122, ntmps := 44, results := [.tmp 2], types := [31], hint := hint122, keep := .drop }
def E122 : Env := { T := tiOf, hint := hint122 }
def hint123 : Hint := { }
noncomputable def body123 : Code := match Tryz.f123.body with | some c => c | none => .skip
noncomputable def fn123 : Fun := { body := body123, ntmps := 9, results := [.tmp 2], types := [4], hint := hint123, keep := .drop }
def E123 : Env := { T := tiOf, hint := hint123 }
def hint124 : Hint := { }
noncomputable def body124 : Code := match Tryz.f124.body with | some c => c | none => .skip
noncomputable def fn124 : Fun := { body := body124, ntmps := 47, results := [.tmp 2], types := [31], hint := hint124, keep := .drop }
def E124 : Env := { T := tiOf, hint := hint124 }
def hint125 : Hint := { dead := [(3, [0, 2, 5, 9, 10, 11, 12, 13, 14, 16])] }
noncomputable def body125 : Code := match Tryz.f125.body with | some c => c | none => .skip
noncomputable def fn125 : Fun := { body := body125, ntmps := 18, results := [.tmp 2], types := [3], hint := hint125, keep := .drop }
def E125 : Env := { T := tiOf, hint := hint125 }
def hint126 : Hint := { }
noncomputable def body126 : Code := match Tryz.f126.body with | some c => c | none => .skip
noncomputable def fn126 : Fun := { body := body126, ntmps := 20, results := [.tmp 4], types := [3], hint := hint126, keep := .drop }
def E126 : Env := { T := tiOf, hint := hint126 }
def hint127 : Hint := { }
noncomputable def body127 : Code := match Tryz.f127.body with | some c => c | none => .skip
noncomputable def fn127 : Fun := { body := body127, ntmps := 8, results := [.tmp 4], types := [3], hint := hint127, keep := .drop }
def E127 : Env := { T := tiOf, hint := hint127 }
def hint131 : Hint := { eqs := [14, 15] }
noncomputable def body131 : Code := match Tryz.f131.body with | some c => c | none => .skip
noncomputable def fn131 : Fun := { body := body131, ntmps := 16, results := [.tmp 2], types := [9], hint := hint131, keep := .drop }
def E131 : Env := { T := tiOf, hint := hint131 }
def hint132 : Hint := { }
noncomputable def body132 : Code := match Tryz.f132.body with | some c => c | none => .skip
noncomputable def fn132 : Fun := { body := body132, ntmps := 5, results := [.tmp 2], types := [34], hint := hint132, keep := .drop }
def E132 : Env := { T := tiOf, hint := hint132 }
def hint133 : Hint := { esc := [1] }
noncomputable def body133 : Code := match Tryz.f133.body with | some c => c | none => .skip
noncomputable def fn133 : Fun := { body := body133, ntmps := 4, results := [.tmp 2], types := [98], hint := hint133, keep := .keep }
def E133 : Env := { T := tiOf, hint := hint133 }
def hint134 : Hint := { esc := [29], dead := [(6, [0, 1, 6, 7, 8, 11, 12, 13, 14, 15, 16, 17, 18, 19, 20, 21, 22, 23, 24, 25, 26, 27, 28, 29, 30, 33, 34, 35, 36, 37, 38, 39, 40, 41, 42, 43, 44, 45, 46, 47, 48, 49, 50]), (13, [31, 32, 33])], reH := [5, 12], joins := [13], eqr := true }
noncomputable def body134 : Code := match Tryz.f134.body with | some c => c | none => .skip
noncomputable def fn134 : Fun := { body := body134, ntmps := 57, results := [.tmp 6, .tmp 7, .tmp 8], types := [62, 9, 4], hint := hint134, keep := .drop }
def E134 : Env := { T := tiOf, hint := hint134 }
def hint135 : Hint := { dead := [(2, [2, 4, 5, 6, 7, 8, 9, 10, 11, 12, 13, 14]), (6, [3, 4, 5, 6, 7])], joins := [6] }
noncomputable def body135 : Code := match Tryz.f135.body with | some c => c | none => .skip
noncomputable def fn135 : Fun := { body := body135, ntmps := 33, results := [.tmp 2], types := [4], hint := hint135, keep := .drop }
def E135 : Env := { T := tiOf, hint := hint135 }
def hint136 : Hint := { }
noncomputable def body136 : Code := match Tryz.f136.body with | some c => c | none => .skip
noncomputable def fn136 : Fun := { body := body136, ntmps := 15, results := [.tmp 6], types := [4], hint := hint136, keep := .drop }
def E136 : Env := { T := tiOf, hint := hint136 }
def hint137 : Hint := { }
noncomputable def body137 : Code := match Tryz.f137.body with | some c => c | none => .skip
noncomputable def fn137 : Fun := { body := body137, ntmps := 11, results := [.tmp 4], types := [3], hint := hint137, keep := .drop }
def E137 : Env := { T := tiOf, hint := hint137 }
def hint150 : Hint := { dead := [(4, [2, 4, 5, 6, 7, 8, 9, 10, 11, 12, 13, 14, 15, 16, 17, 18, 19, 20, 21, 22, 23, 24, 25, 26, 27, 28, 29, 30, 31, 32])] }
noncomputable def body150 : Code := match Tryz.f150.body with | some c => c | none => .skip
noncomputable def fn150 : Fun := { body := body150, ntmps := 33, results := [.tmp 2], types := [4], hint := hint150, keep := .drop }
def E150 : Env := { T := tiOf, hint := hint150 }
def hint151 : Hint := { }
noncomputable def body151 : Code := match Tryz.f151.body with | some c => c | none => .skip
noncomputable def fn151 : Fun := { body := body151, ntmps := 9, results := [.tmp 2], types := [4], hint := hint151, keep := .drop }
def E151 : Env := { T := tiOf, hint := hint151 }
def hint152 : Hint := { }
noncomputable def body152 : Code := match Tryz.f152.body with | some c => c | none => .skip
noncomputable def fn152 : Fun := { body := body152, ntmps := 9, results := [.tmp 2], types := [4], hint := hint152, keep := .drop }
def E152 : Env := { T := tiOf, hint := hint152 }
def hint153 : Hint := { }
noncomputable def body153 : Code := match Tryz.f153.body with | some c => c | none => .skip
noncomputable def fn153 : Fun := { body := body153, ntmps := 6, results := [.tmp 2], types := [4], hint := hint153, keep := .drop }
def E153 : Env := { T := tiOf, hint := hint153 }
def hint154 : Hint := { dead := [(2, [6, 7, 8, 9, 10, 14, 15, 16, 17, 18, 19, 20, 21, 22, 23, 24, 25, 26, 27, 28, 29, 30, 31, 33]), (11, [2, 11, 12, 13, 14])], joins := [11] }
noncomputable def body154 : Code := match Tryz.f154.body with | some c => c | none => .skip
noncomputable def fn154 : Fun := { body := body154, ntmps := 39, results := [.tmp 6], types := [3], hint := hint154, keep := .drop }
def E154 : Env := { T := tiOf, hint := hint154 }
def hint155 : Hint := { eqs := [15] }
noncomputable def body155 : Code := match Tryz.f155.body with | some c => c | none => .skip
noncomputable def fn155 : Fun := { body := body155, ntmps := 17, results := [.tmp 4], types := [3], hint := hint155, keep := .drop }
def E155 : Env := { T := tiOf, hint := hint155 }
def hint156 : Hint := { }
noncomputable def body156 : Code := match Tryz.f156.body with | some c => c | none => .skip
noncomputable def fn156 : Fun := { body := body156, ntmps := 20, results := [.tmp 4], types := [3], hint := hint156, keep := .drop }
def E156 : Env := { T := tiOf, hint := hint156 }
def hint162 : Hint := { }
noncomputable def body162 : Code := match Tryz.f162.body with | some c => c | none => .skip
noncomputable def fn162 : Fun := { body := body162, ntmps := 10, results := [.tmp 4], types := [34], hint := hint162, keep := .drop }
def E162 : Env := { T := tiOf, hint := hint162 }
def hint163 : Hint := { dead := [(1, [1, 4, 5, 6, 7, 8, 9, 10, 11, 12, 13, 14, 15, 16, 17, 18, 19, 20, 21, 22, 23, 24, 25, 26])] }
noncomputable def body163 : Code := match Tryz.f163.body with | some c => c | none => .skip
noncomputable def fn163 : Fun := { body := body163, ntmps := 27, results := [], types := [], hint := hint163, keep := .keep }
def E163 : Env := { T := tiOf, hint := hint163 }
def hint167 : Hint := { }
noncomputable def body167 : Code := match Tryz.f167.body with | some c => c | none => .skip
noncomputable def fn167 : Fun := { body := body167, ntmps := 29, results := [.tmp 2], types := [4], hint := hint167, keep := .drop }
def E167 : Env := { T := tiOf, hint := hint167 }
def hint183 : Hint := { }
noncomputable def body183 : Code := match Tryz.f183.body with | some c => c | none => .skip
noncomputable def fn183 : Fun := { body := body183, ntmps := 29, results := [.tmp 2], types := [4], hint := hint183, keep := .drop }
def E183 : Env := { T := tiOf, hint := hint183 }
def hint184 : Hint := { }
noncomputable def body184 : Code := match Tryz.f184.body with | some c => c | none => .skip
noncomputable def fn184 : Fun := { body := body184, ntmps := 6, results := [.tmp 2], types := [4], hint := hint184, keep := .drop }
def E184 : Env := { T := tiOf, hint := hint184 }
def hint190 : Hint := { esc := [5], eqs := [34, 41], dead := [(3, [4, 6, 9, 10, 11, 12, 13, 14, 15, 16]), (7, [8, 9]), (8, [17, 18, 19, 20, 21, 22, 23, 24, 25, 26, 27, 28, 29, 30, 31, 32, 33, 34, 35, 36, 37, 38, 39, 40, 41, 42])], reH := [2, 6], joins := [7] }
noncomputable def body190 : Code := match Tryz.f190.body with | some c => c | none => .skip
noncomputable def fn190 : Fun := { body := body190, ntmps := 44, results := [.tmp 4], types := [34], hint := hint190, keep := .drop }
def E190 : Env := { T := tiOf, hint := hint190 }
def hint203 : Hint := { dead := [(2, [1, 4, 16]), (6, [7, 8, 9, 10, 11, 12, 13, 14, 15])], joins := [6] }
noncomputable def body203 : Code := match Tryz.f203.body with | some c => c | none => .skip
noncomputable def fn203 : Fun := { body := body203, ntmps := 18, results := [.tmp 4], types := [34], hint := hint203, keep := .drop }
def E203 : Env := { T := tiOf, hint := hint203 }
def fnTab : List (Nat × Hint × Keep) := [(3, hint3, .drop), (4, hint4, .drop), (9, hint9, .drop), (10, hint10, .drop), (11, hint11, .drop), (12, hint12, .drop), (13, hint13, .drop), (14, hint14, .drop), (30, hint30, .drop), (36, hint36, .drop), (37, hint37, .drop), (39, hint39, .drop), (40, hint40, .drop), (41, hint41, .drop), (42, hint42, .drop), (43, hint43, .drop), (44, hint44, .drop), (45, hint45, .drop), (80, hint80, .drop), (81, hint81, .drop), (83, hint83, .keep), (84, hint84, .drop), (86, hint86, .drop), (87, hint87, .drop), (88, hint88, .drop), (89, hint89, .drop), (90, hint90, .drop), (91, hint91, .drop), (122, hint122, .drop), (123, hint123, .drop), (124, hint124, .drop), (125, hint125, .drop), (126, hint126, .drop), (127, hint127, .drop), (131, hint131, .drop), (132, hint132, .drop), (133, hint133, .keep), (134, hint134, .drop), (135, hint135, .drop), (136, hint136, .drop), (137, hint137, .drop), (150, hint150, .drop), (151, hint151, .drop), (152, hint152, .drop), (153, hint153, .drop), (154, hint154, .drop), (155, hint155, .drop), (156, hint156, .drop), (162, hint162, .drop), (163, hint163, .keep), (167, hint167, .drop), (183, hint183, .drop), (184, hint184, .drop), (190, hint190, .drop), (203, hint203, .drop)]
def rndTab : List (Nat × Hint × Keep) := [(8700, hint87, .keep)]
noncomputable def fnOf (f : FuncId) : Option Fun := match lkN f fnTab with
  | some (h, kp) => match Tryz.checked.prog.funcs[f]? with
    | some F => bif F.name == "runtime.NumGoroutine" then none else funOf F h kp
    | none => none
  | none => none
def extRel (f : FuncId) (args : List AVal) (H : List HObj) (r : AVal) (H' : List HObj) : Prop :=
  (f = 129 ∧ relWrite 126 5 args H r H') ∨ (f = 130 ∧ relByte 126 5 args H r H') ∨ (f = 85 ∧ relString 126 5 args H r H') ∨ (f = 38 ∧ relItoa args H r H') ∨ (f = 166 ∧ relAtoi args H r H') ∨ (f = 164 ∧ relCut args H r H') ∨ (f = 165 ∧ relSplit args H r H')
noncomputable def G : Prog := { T := tiOf, fns := fnOf, ext := extRel, rnds := fun i => lkN i rndTab }
def Cn (n : Nat) : FuncId → List AVal → List HObj → AVal → List HObj → Prop := fun g args H r H' => CallIn (Run G n g) args H r H'
theorem cnR {n : Nat} {f : FuncId} {args : List AVal} {H H' : List HObj} {r : AVal} (h : Run G n f args H r H') : Cn n f args H r H' := .inr h
theorem cnL {n : Nat} {f : FuncId} {args : List AVal} {H H0 : List HObj} {r : AVal} (h1 : args.all noRefArg = true) (h2 : noRefAll r = true) (h : Run G n f args [] r H0) : Cn n f args H r H := .inl ⟨h1, h2, rfl, _, h⟩
theorem Dq {α β R : Type} {n : Nat} {enc : α → R} {t : Tree R} {x : Option β} {J : β → Option α} (e : β → AVal × List HObj) {f : FuncId} {args : List AVal} (H : List HObj) (hc : ∀ b, x = some b → Run G n f args [] (e b).1 (e b).2)
    (h1 : ∀ b, Dn (Cn n) enc (t.go (e b).1 H) (J b)) (h : t.head = .call f args H := by kernel_rfl) (h2 : args.all noRefArg = true := by kernel_rfl) (h3 : ∀ b, noRefAll (e b).1 = true := by (intro b; kernel_rfl)) : Dn (Cn n) enc t (x.bind J) :=
  Dn.call (fun b => (e b).1) (fun _ => H) h (fun b hb => cnL h2 (h3 b) (hc b hb)) h1
theorem Dqm {α β R : Type} {n : Nat} {enc : α → R} {t : Tree R} {x : Option β} {J : β → Option α} (e : β → AVal × List HObj) {f : FuncId} {args : List AVal} (H : List HObj) (hc : ∀ b, x = some b → Run G n f args [] (e b).1 (e b).2)
    (h1 : ∀ b, Dn (Cn n) enc (t.go (e b).1 H) (J b)) (h : t.head = .call f args H := by kernel_rfl) (h2 : args.all noRefArg = true := by kernel_rfl) (h3 : ∀ b, noRefAll (e b).1 = true := by (intro b; cases b <;> rfl)) : Dn (Cn n) enc t (x.bind J) :=
  Dn.call (fun b => (e b).1) (fun _ => H) h (fun b hb => cnL h2 (h3 b) (hc b hb)) h1
theorem Dp {α β R : Type} {n : Nat} {enc : α → R} {t : Tree R} {x : Option β} {J : β → Option α} (e : β → AVal × List HObj) {f : FuncId} {args : List AVal} {H : List HObj} (hc : ∀ b, x = some b → Run G n f args H (e b).1 (e b).2)
    (h1 : ∀ b, Dn (Cn n) enc (t.go (e b).1 (e b).2) (J b)) (h : t.head = .call f args H := by kernel_rfl) : Dn (Cn n) enc t (x.bind J) :=
  Dn.call (fun b => (e b).1) (fun b => (e b).2) h (fun b hb => cnR (hc b hb)) h1
theorem run_of {n : Nat} {f : FuncId} {fn : Fun} {args : List AVal} {H : List HObj} {r : AVal × List HObj} (hf : fnOf f = some fn) (h : Den (Cn n) (enter { T := tiOf, hint := fn.hint } n fn args H) r) : Run G (n + 1) f args H r.1 r.2 := .inr (.inl ⟨fn, hf, h⟩)
theorem rnd_of {n i id : Nat} {L : LoopC} {ts args : List AVal} {h : Hint} {kp : Keep} {H : List HObj} {r : AVal × List HObj} (hH : H[id]? = some (.loop L ts .ready)) (hi : L.id = i) (hl : args.length = L.params.length) (hr : lkN i rndTab = some (h, kp)) (hd : Den (Cn n) (enterRound { T := tiOf, hint := h, rnd := true } n L kp id ts args H) r) : Run G (n + 1) (rnd0 + i) (.yld id :: args) H r.1 r.2 :=
  .inr (.inr ⟨i, id, args, L, ts, h, kp, rfl, rfl, hH, hi, hl, hr, hd⟩)
theorem bwrite_ok {n id : Nat} {H : List HObj} {b s c : ByteArray} (h1 : H[id]? = some (.bld 126 5 b)) (h : bWrite n b s = some c) : Run G n 129 [.href id 0, .str s] H (.tuple [.int .i64 s.size, .nilIface]) (H.set id (.bld 126 5 c)) := by
  cases n with
  | zero => cases h
  | succ n =>
    unfold bWrite at h
    cases hc : decide (b.size + s.size ≤ 140737488355328) with
    | false => simp only [hc, cond_false] at h; cases h
    | true =>
      simp only [hc, cond_true, Option.some.injEq] at h
      subst h
      exact .inl (.inl ⟨rfl, id, b, s, rfl, h1, of_decide_eq_true hc, rfl, rfl⟩)
theorem bbyte_ok {n id : Nat} {H : List HObj} {b d : ByteArray} {c : Int} (h1 : H[id]? = some (.bld 126 5 b)) (h : bByte n b c = some d) : Run G n 130 [.href id 0, .int .u8 c] H .nilIface (H.set id (.bld 126 5 d)) := by
  cases n with
  | zero => cases h
  | succ n =>
    unfold bByte at h
    cases hc : (decide (b.size + 1 ≤ 140737488355328) && (decide (0 ≤ c) && decide (c < 256))) with
    | false => simp only [hc, cond_false] at h; cases h
    | true =>
      simp only [hc, cond_true, Option.some.injEq] at h
      subst h
      simp only [Bool.and_eq_true, decide_eq_true_eq] at hc
      exact .inl (.inr (.inl ⟨rfl, id, b, c, rfl, h1, hc.1, hc.2.1, hc.2.2, rfl, rfl⟩))
theorem bstring_ok {n id : Nat} {H : List HObj} {b c : ByteArray} (h1 : H[id]? = some (.bld 126 5 b)) (h : bString n b = some c) : Run G n 85 [.href id 0] H (.str c) H := by
  cases n with
  | zero => cases h
  | succ n =>
    unfold bString at h
    cases hc : decide (1 ≤ b.size) with
    | false => simp only [hc, cond_false] at h; cases h
    | true =>
      simp only [hc, cond_true, Option.some.injEq] at h
      subst h
      exact .inl (.inr (.inr (.inl ⟨rfl, id, b, rfl, h1, of_decide_eq_true hc, rfl, rfl⟩)))
theorem itoa_ok {n : Nat} {H : List HObj} {x : Int} {b : ByteArray} (h : itoaS n x = some b) : Run G n 38 [.int .i64 x] H (.str b) H := by
  cases n with
  | zero => cases h
  | succ n => exact .inl (.inr (.inr (.inr (.inl ⟨rfl, rel_itoa H h⟩))))
theorem atoi_ok {n : Nat} {H : List HObj} {s : ByteArray} {b : AtoiR} (h : atoiS n s = some b) : Run G n 166 [.str s] H (atoiE H b).1 (atoiE H b).2 := by
  cases n with
  | zero => cases h
  | succ n => exact .inl (.inr (.inr (.inr (.inr (.inl ⟨rfl, rel_atoi H h⟩)))))
theorem cut_ok {n : Nat} {H : List HObj} {s sep : ByteArray} {b : ByteArray × ByteArray × Bool} (h : cutS n s sep = some b) : Run G n 164 [.str s, .str sep] H (.tuple [.str b.1, .str b.2.1, .bool b.2.2]) H := by
  cases n with
  | zero => cases h
  | succ n => exact .inl (.inr (.inr (.inr (.inr (.inr (.inl ⟨rfl, rel_cut H h⟩))))))
theorem split_ok {n : Nat} {H : List HObj} {s sep : ByteArray} {b : List ByteArray} (h : splitS n s sep = some b) : Run G n 165 [.str s, .str sep] H (encL 1 AVal.str bE b) H := by
  cases n with
  | zero => cases h
  | succ n => exact .inl (.inr (.inr (.inr (.inr (.inr (.inr (⟨rfl, rel_split H h⟩)))))))

end Go.Proofs.YtomalcfghdaghaaGreatDoor
