/- PRINTED: the functions of the program, as the machine needs them. -/
import Derived.Test.YtomalcfghdaghaaGreatDoorAmTab
import Derived.Test.YtomalcfghdaghaaGreatDoorAmX
import Derived.Test.YtomalcfghdaghaaGreatDoorLib0
set_option linter.unusedVariables false
set_option maxRecDepth 100000
set_option maxHeartbeats 0
namespace Go.Proofs.YtomalcfghdaghaaGreatDoor
open Go Go.AM
def hint6 : Hint := { }
noncomputable def body6 : Code := match Tryz.f6.body with | some c => c | none => .skip
noncomputable def fn6 : Fun := { body := body6, ntmps := 89, results := [.tmp 10], types := [4], hint := hint6, keep := .drop }
def E6 : Env := { T := tiOf, hint := hint6 }
def hint7 : Hint := { }
noncomputable def body7 : Code := match Tryz.f7.body with | some c => c | none => .skip
noncomputable def fn7 : Fun := { body := body7, ntmps := 93, results := [.tmp 10], types := [4], hint := hint7, keep := .drop }
def E7 : Env := { T := tiOf, hint := hint7 }
def hint12 : Hint := { }
noncomputable def body12 : Code := match Tryz.f12.body with | some c => c | none => .skip
noncomputable def fn12 : Fun := { body := body12, ntmps := 43, results := [.tmp 0], types := [4], hint := hint12, keep := .drop }
def E12 : Env := { T := tiOf, hint := hint12 }
def hint14 : Hint := { eqs := [64], dead := [(12, [0, 2, 6, 7, 8, 9, 10, 11, 12, 13, 14, 15, 16, 17, 18, 19, 20, 21, 22, 23, 24, 25, 26, 27, 28, 29, 30, 31, 32, 33, 34, 35, 36, 37, 38, 39, 40, 41, 42, 43, 44, 45, 46, 50, 51, 52, 53, 54, 55, 56, 57, 58, 59, 61, 62, 63, 64, 65, 66, 67, 68, 69, 70])], reH := [10, 20] }
noncomputable def body14 : Code := match Tryz.f14.body with | some c => c | none => .skip
noncomputable def fn14 : Fun := { body := body14, ntmps := 71, results := [.tmp 2], types := [31], hint := hint14, keep := .drop }
def E14 : Env := { T := tiOf, hint := hint14 }
def hint15 : Hint := { }
noncomputable def body15 : Code := match Tryz.f15.body with | some c => c | none => .skip
noncomputable def fn15 : Fun := { body := body15, ntmps := 13, results := [.tmp 2], types := [4], hint := hint15, keep := .drop }
def E15 : Env := { T := tiOf, hint := hint15 }
def hint16 : Hint := { dead := [(5, [0, 2, 7, 8, 9, 10, 11, 12, 13, 14, 15, 16, 17, 18, 19, 20, 21, 22, 23, 24, 25, 26, 27, 28, 29, 30, 31, 32, 33, 34, 35, 36, 37, 38, 39, 40, 41, 42, 43, 44, 45, 46]), (10, [4, 23, 24, 25, 26, 27]), (11, [47, 48, 49, 50, 51, 52, 53, 54, 55, 56, 57, 58, 59, 60, 61]), (15, [5, 47, 48, 49, 50, 51]), (16, [62, 63, 64, 65, 66, 67, 68, 69, 70, 71, 72, 73, 74, 75, 76, 77, 78, 79, 80, 81, 82, 83, 84, 85, 86]), (20, [1, 6, 62, 63, 64, 65, 66])], joins := [10, 15, 20] }
noncomputable def body16 : Code := match Tryz.f16.body with | some c => c | none => .skip
noncomputable def fn16 : Fun := { body := body16, ntmps := 89, results := [.tmp 2], types := [4], hint := hint16, keep := .drop }
def E16 : Env := { T := tiOf, hint := hint16 }
def hint18 : Hint := { }
noncomputable def body18 : Code := match Tryz.f18.body with | some c => c | none => .skip
noncomputable def fn18 : Fun := { body := body18, ntmps := 12, results := [.tmp 2], types := [31], hint := hint18, keep := .drop }
def E18 : Env := { T := tiOf, hint := hint18 }
def hint20 : Hint := { }
noncomputable def body20 : Code := match Tryz.f20.body with | some c => c | none => .skip
noncomputable def fn20 : Fun := { body := body20, ntmps := 31, results := [.cell 4 48, .tmp 5], types := [48, 31], hint := hint20, keep := .drop }
def E20 : Env := { T := tiOf, hint := hint20 }
def hint26 : Hint := { }
noncomputable def body26 : Code := match Tryz.f26.body with | some c => c | none => .skip
noncomputable def fn26 : Fun := { body := body26, ntmps := 22, results := [.cell 4 48, .tmp 5], types := [48, 4], hint := hint26, keep := .drop }
def E26 : Env := { T := tiOf, hint := hint26 }
def hint27 : Hint := { dead := [(10, [0, 1, 3, 5, 6, 7, 8, 9, 10, 12, 13, 14, 15, 16, 17, 18, 19, 20, 21, 22, 23, 24, 25, 26, 28, 29, 30, 31, 32, 33, 34, 35, 36, 37, 38, 39, 40, 41, 45, 46, 47, 48, 49, 50, 51, 52, 53, 54, 55, 58, 59])], gh := [(8, [.frz 6])] }
noncomputable def body27 : Code := match Tryz.f27.body with | some c => c | none => .skip
noncomputable def fn27 : Fun := { body := body27, ntmps := 61, results := [.cell 4 48, .tmp 5], types := [48, 31], hint := hint27, keep := .drop }
def E27 : Env := { T := tiOf, hint := hint27 }
def hint28 : Hint := { }
noncomputable def body28 : Code := match Tryz.f28.body with | some c => c | none => .skip
noncomputable def fn28 : Fun := { body := body28, ntmps := 19, results := [.cell 2 43, .tmp 3], types := [43, 31], hint := hint28, keep := .drop }
def E28 : Env := { T := tiOf, hint := hint28 }
def hint29 : Hint := { esc := [3, 9], eqs := [47, 82, 106, 114], dead := [(11, [0, 1, 3, 5, 6, 8, 9, 11, 21, 22, 23, 24, 25, 26, 27, 29, 30, 31, 32, 33, 34, 35, 37, 38, 39, 40, 41, 42, 43, 44, 45, 46, 65]), (16, [13, 14, 15, 50, 51, 52, 53, 54, 55, 56, 57, 58, 59, 60, 61, 62, 63, 64]), (17, [47, 48, 49, 50]), (19, [17, 18, 19, 20, 66, 67, 68, 69, 73, 74, 75, 76, 77, 78, 79, 80, 81, 82, 83, 84, 85, 86, 87, 88, 89, 90, 91, 92, 93, 94, 95, 96, 97, 98, 99, 100, 101, 102, 103, 104, 105, 106, 107, 108, 109, 110, 111, 112, 113, 114, 115, 116]), (26, [2, 7, 10, 70, 71, 72, 73])], joins := [16, 17, 26] }
noncomputable def body29 : Code := match Tryz.f29.body with | some c => c | none => .skip
noncomputable def fn29 : Fun := { body := body29, ntmps := 118, results := [.cell 4 48], types := [48], hint := hint29, keep := .drop }
def E29 : Env := { T := tiOf, hint := hint29 }
def hint30 : Hint := { dead := [(4, [0, 1, 4, 6, 7, 8, 9, 10, 11, 12, 13, 14, 15, 16, 17, 18, 19, 20, 21, 22, 23, 24, 25, 26, 27, 28, 29, 30, 31, 32, 33, 34, 35, 36, 37, 38, 39, 40, 41, 42, 43, 44, 45, 46, 47, 48, 49, 50, 51, 52, 53, 54, 55, 56, 57, 58])] }
noncomputable def body30 : Code := match Tryz.f30.body with | some c => c | none => .skip
noncomputable def fn30 : Fun := { body := body30, ntmps := 59, results := [.tmp 4], types := [4], hint := hint30, keep := .drop }
def E30 : Env := { T := tiOf, hint := hint30 }
def hint39 : Hint := { esc := [4], eqs := [16, 37], dead := [(6, [0, 1, 2, 3, 6, 7, 8, 9, 10, 11, 12, 13, 14, 15, 16, 17, 18, 19, 20, 24, 25, 26, 27, 28, 29, 30, 31, 32, 33, 34, 35, 36, 37, 38, 39, 40, 41]), (10, [21, 22, 23, 24])], joins := [10], bld := [(126, 5)] }
noncomputable def body39 : Code := match Tryz.f39.body with | some c => c | none => .skip
noncomputable def fn39 : Fun := { body := body39, ntmps := 44, results := [.tmp 2, .tmp 3], types := [9, 31], hint := hint39, keep := .drop }
def E39 : Env := { T := tiOf, hint := hint39 }
def hint40 : Hint := { eqs := [2] }
noncomputable def body40 : Code := match Tryz.f40.body with | some c => c | none => .skip
noncomputable def fn40 : Fun := { body := body40, ntmps := 4, results := [.cell 0 43], types := [43], hint := hint40, keep := .drop }
def E40 : Env := { T := tiOf, hint := hint40 }
def hint41 : Hint := { }
noncomputable def body41 : Code := match Tryz.f41.body with | some c => c | none => .skip
noncomputable def fn41 : Fun := { body := body41, ntmps := 40, results := [.cell 2 43, .tmp 3], types := [43, 31], hint := hint41, keep := .drop }
def E41 : Env := { T := tiOf, hint := hint41 }
def hint44 : Hint := { dead := [(4, [2, 4, 5, 6, 7, 8, 9, 10, 11, 12, 13, 14, 15, 16, 17, 18, 19, 20, 21, 22, 44, 45, 46, 47, 48, 49, 50, 51, 52, 53, 54, 55, 56, 57, 58, 59, 60, 61, 62, 63, 64, 65, 66]), (8, [3, 25, 26, 27, 28, 29, 30, 31, 32, 33, 34, 35, 36, 37, 38, 39, 40, 41, 42, 43])], joins := [8] }
noncomputable def body44 : Code := match Tryz.f44.body with | some c => c | none => .skip
noncomputable def fn44 : Fun := { body := body44, ntmps := 67, results := [.tmp 2], types := [4], hint := hint44, keep := .drop }
def E44 : Env := { T := tiOf, hint := hint44 }
def hint45 : Hint := { }
noncomputable def body45 : Code := match Tryz.f45.body with | some c => c | none => .skip
noncomputable def fn45 : Fun := { body := body45, ntmps := 60, results := [.tmp 6], types := [31], hint := hint45, keep := .drop }
def E45 : Env := { T := tiOf, hint := hint45 }
def hint49 : Hint := { dead := [(4, [0, 3, 5, 12, 13, 14, 15, 16, 17, 18, 19, 20, 21, 22, 23, 24, 25, 26, 28, 32, 33, 34, 35, 36, 37, 38, 39, 40, 41, 42, 43, 44, 45, 46, 47, 48, 49, 50, 51, 53]), (9, [29, 30, 31, 32]), (13, [1, 7, 9, 10, 11, 54, 55, 56, 57, 58, 59, 60, 62, 66, 67, 68, 69, 70, 71, 72, 73, 74, 75, 76, 77, 78, 79, 80, 81, 82, 83, 84, 86, 87, 88, 89, 90, 91]), (20, [63, 64, 65, 66])], joins := [9, 20] }
noncomputable def body49 : Code := match Tryz.f49.body with | some c => c | none => .skip
noncomputable def fn49 : Fun := { body := body49, ntmps := 93, results := [.cell 2 93, .tmp 3], types := [93, 4], hint := hint49, keep := .keep }
def E49 : Env := { T := tiOf, hint := hint49 }
def hint51 : Hint := { esc := [1] }
noncomputable def body51 : Code := match Tryz.f51.body with | some c => c | none => .skip
noncomputable def fn51 : Fun := { body := body51, ntmps := 4, results := [.tmp 2], types := [98], hint := hint51, keep := .keep }
def E51 : Env := { T := tiOf, hint := hint51 }
def hint52 : Hint := { eqs := [20] }
noncomputable def body52 : Code := match Tryz.f52.body with | some c => c | none => .skip
noncomputable def fn52 : Fun := { body := body52, ntmps := 26, results := [.tmp 4, .tmp 5], types := [3, 31], hint := hint52, keep := .drop }
def E52 : Env := { T := tiOf, hint := hint52 }
def hint53 : Hint := { dead := [(5, [0, 1, 2, 5, 6, 7, 8, 10, 11, 12, 13, 14, 15, 16])], joins := [5] }
noncomputable def body53 : Code := match Tryz.f53.body with | some c => c | none => .skip
noncomputable def fn53 : Fun := { body := body53, ntmps := 18, results := [.cell 4 48, .tmp 5], types := [48, 31], hint := hint53, keep := .drop }
def E53 : Env := { T := tiOf, hint := hint53 }
def hint54 : Hint := { eqs := [10] }
noncomputable def body54 : Code := match Tryz.f54.body with | some c => c | none => .skip
noncomputable def fn54 : Fun := { body := body54, ntmps := 13, results := [.cell 4 48], types := [48], hint := hint54, keep := .drop }
def E54 : Env := { T := tiOf, hint := hint54 }
def hint57 : Hint := { }
noncomputable def body57 : Code := match Tryz.f57.body with | some c => c | none => .skip
noncomputable def fn57 : Fun := { body := body57, ntmps := 23, results := [.tmp 4, .tmp 5], types := [9, 31], hint := hint57, keep := .drop }
def E57 : Env := { T := tiOf, hint := hint57 }
def hint58 : Hint := { }
noncomputable def body58 : Code := match Tryz.f58.body with | some c => c | none => .skip
noncomputable def fn58 : Fun := { body := body58, ntmps := 8, results := [.cell 2 48, .tmp 3], types := [48, 31], hint := hint58, keep := .drop }
def E58 : Env := { T := tiOf, hint := hint58 }
def hint59 : Hint := { }
noncomputable def body59 : Code := match Tryz.f59.body with | some c => c | none => .skip
noncomputable def fn59 : Fun := { body := body59, ntmps := 8, results := [.cell 2 48, .tmp 3], types := [48, 31], hint := hint59, keep := .drop }
def E59 : Env := { T := tiOf, hint := hint59 }
def hint60 : Hint := { eqs := [27, 55] }
noncomputable def body60 : Code := match Tryz.f60.body with | some c => c | none => .skip
noncomputable def fn60 : Fun := { body := body60, ntmps := 62, results := [.cell 4 48, .tmp 5], types := [48, 31], hint := hint60, keep := .drop }
def E60 : Env := { T := tiOf, hint := hint60 }
def hint61 : Hint := { }
noncomputable def body61 : Code := match Tryz.f61.body with | some c => c | none => .skip
noncomputable def fn61 : Fun := { body := body61, ntmps := 10, results := [.cell 3 48, .tmp 4], types := [48, 31], hint := hint61, keep := .drop }
def E61 : Env := { T := tiOf, hint := hint61 }
def hint62 : Hint := { }
noncomputable def body62 : Code := match Tryz.f62.body with | some c => c | none => .skip
noncomputable def fn62 : Fun := { body := body62, ntmps := 47, results := [.cell 6 48, .tmp 7], types := [48, 31], hint := hint62, keep := .drop }
def E62 : Env := { T := tiOf, hint := hint62 }
def hint63 : Hint := { }
noncomputable def body63 : Code := match Tryz.f63.body with | some c => c | none => .skip
noncomputable def fn63 : Fun := { body := body63, ntmps := 8, results := [.cell 2 48, .tmp 3], types := [48, 31], hint := hint63, keep := .drop }
def E63 : Env := { T := tiOf, hint := hint63 }
def hint64 : Hint := { }
noncomputable def body64 : Code := match Tryz.f64.body with | some c => c | none => .skip
noncomputable def fn64 : Fun := { body := body64, ntmps := 36, results := [.cell 4 48, .tmp 5], types := [48, 31], hint := hint64, keep := .drop }
def E64 : Env := { T := tiOf, hint := hint64 }
def hint65 : Hint := { }
noncomputable def body65 : Code := match Tryz.f65.body with | some c => c | none => .skip
noncomputable def fn65 : Fun := { body := body65, ntmps := 8, results := [.cell 2 48, .tmp 3], types := [48, 31], hint := hint65, keep := .drop }
def E65 : Env := { T := tiOf, hint := hint65 }
def hint66 : Hint := { }
noncomputable def body66 : Code := match Tryz.f66.body with | some c => c | none => .skip
noncomputable def fn66 : Fun := { body := body66, ntmps := 42, results := [.cell 6 48, .tmp 7], types := [48, 31], hint := hint66, keep := .drop }
def E66 : Env := { T := tiOf, hint := hint66 }
def hint67 : Hint := { esc := [26], eqs := [39, 50, 69, 71, 74], dead := [(7, [0, 3, 5, 12, 13, 14, 15, 16, 17, 18, 20, 21, 22, 23, 24, 25, 26, 27, 52]), (12, [8, 9, 31, 32, 33, 34, 35, 36, 37, 38, 39, 40, 41, 42, 43, 44, 45, 46, 47, 48, 49, 50, 51]), (13, [28, 29, 30, 31]), (14, [11, 53, 54, 55, 59, 60, 61, 62, 63, 64, 65, 66, 67, 68, 69, 70, 71, 72, 73, 74, 75, 76]), (18, [4, 7, 56, 57, 58, 59])], reH := [6, 11], joins := [12, 13, 18] }
noncomputable def body67 : Code := match Tryz.f67.body with | some c => c | none => .skip
noncomputable def fn67 : Fun := { body := body67, ntmps := 82, results := [.cell 2 48, .tmp 3], types := [48, 31], hint := hint67, keep := .drop }
def E67 : Env := { T := tiOf, hint := hint67 }
def hint68 : Hint := { esc := [11], eqs := [59], dead := [(3, [0, 3, 5, 6, 7, 8, 9, 10, 11, 12, 13, 17, 18, 19, 20, 21, 22, 23, 24, 25, 26, 27, 28, 29, 30, 31, 32, 33, 34, 35, 36, 37, 38, 39, 40, 42, 43, 44, 45, 46, 47, 48, 49, 50, 51, 52, 53, 54, 55, 56, 57, 58, 59, 60, 62, 63, 64, 65, 66, 67, 68, 69, 70, 71, 72, 73]), (12, [1, 14, 15, 16, 17])], reH := [2, 10, 11], joins := [12] }
noncomputable def body68 : Code := match Tryz.f68.body with | some c => c | none => .skip
noncomputable def fn68 : Fun := { body := body68, ntmps := 75, results := [.cell 2 93, .tmp 3], types := [93, 4], hint := hint68, keep := .keep }
def E68 : Env := { T := tiOf, hint := hint68 }
def hint69 : Hint := { }
noncomputable def body69 : Code := match Tryz.f69.body with | some c => c | none => .skip
noncomputable def fn69 : Fun := { body := body69, ntmps := 24, results := [.tmp 4], types := [3], hint := hint69, keep := .keep }
def E69 : Env := { T := tiOf, hint := hint69 }
def hint70 : Hint := { }
noncomputable def body70 : Code := match Tryz.f70.body with | some c => c | none => .skip
noncomputable def fn70 : Fun := { body := body70, ntmps := 15, results := [.cell 2 114, .tmp 3], types := [114, 4], hint := hint70, keep := .drop }
def E70 : Env := { T := tiOf, hint := hint70 }
def hint71 : Hint := { }
noncomputable def body71 : Code := match Tryz.f71.body with | some c => c | none => .skip
noncomputable def fn71 : Fun := { body := body71, ntmps := 2, results := [.cell 0 48], types := [48], hint := hint71, keep := .clip }
def E71 : Env := { T := tiOf, hint := hint71 }
def hint83 : Hint := { dead := [(2, [1, 2, 9, 10, 11, 12, 16, 17, 18, 19, 20, 21, 22, 23, 24, 25]), (7, [13, 14, 15, 16])], joins := [7] }
noncomputable def body83 : Code := match Tryz.f83.body with | some c => c | none => .skip
noncomputable def fn83 : Fun := { body := body83, ntmps := 33, results := [], types := [], hint := hint83, keep := .keep }
def E83 : Env := { T := tiOf, hint := hint83 }
def hint84 : Hint := { }
noncomputable def body84 : Code := match Tryz.f84.body with | some c => c | none => .skip
noncomputable def fn84 : Fun := { body := body84, ntmps := 8, results := [.tmp 2], types := [9], hint := hint84, keep := .drop }
def E84 : Env := { T := tiOf, hint := hint84 }
def hint86 : Hint := { }
noncomputable def body86 : Code := match Tryz.f86.body with | some c => c | none => .skip
noncomputable def fn86 : Fun := { body := body86, ntmps := 22, results := [.tmp 2, .tmp 3], types := [9, 31], hint := hint86, keep := .drop }
def E86 : Env := { T := tiOf, hint := hint86 }
def hint87 : Hint := { esc := [2, 3, 4, 5], eqs := [75], dead := [(5, [0, 13, 14]), (15, [0, 5, 13, 14])], rid := [(5, 8700)], joins := [15] }
noncomputable def body87 : Code := match Tryz.f87.body with | some c => c | none => .skip
noncomputable def fn87 : Fun := { body := body87, ntmps := 78, results := [.cell 2 43, .cell 3 4], types := [43, 4], hint := hint87, keep := .drop }
def E87 : Env := { T := tiOf, hint := hint87 }
def ER87 : Env := { T := tiOf, hint := hint87, rnd := true }
noncomputable def rb8700 : Code := subc body87 [1, 1, 1, 0, 1, 0, 1]
noncomputable def L8700 : LoopC := ⟨8700, [15], subc body87 [1, 1, 1, 0, 1, 0, 0], rb8700⟩
def hint95 : Hint := { eqs := [8] }
noncomputable def body95 : Code := match Tryz.f95.body with | some c => c | none => .skip
noncomputable def fn95 : Fun := { body := body95, ntmps := 9, results := [.tmp 2], types := [46], hint := hint95, keep := .clip }
def E95 : Env := { T := tiOf, hint := hint95 }
def hint96 : Hint := { dead := [(4, [2, 4, 5, 6, 7, 8, 9, 10, 11, 12, 13, 14, 36, 37, 38, 39, 40, 41, 42, 43, 44, 45, 46, 47, 48, 49, 50, 51, 52, 53, 54, 55, 56, 57, 58]), (8, [3, 17, 18, 19, 20, 21, 22, 23, 24, 25, 26, 27, 28, 29, 30, 31, 32, 33, 34, 35])], joins := [8] }
noncomputable def body96 : Code := match Tryz.f96.body with | some c => c | none => .skip
noncomputable def fn96 : Fun := { body := body96, ntmps := 59, results := [.tmp 2], types := [4], hint := hint96, keep := .drop }
def E96 : Env := { T := tiOf, hint := hint96 }
def hint97 : Hint := { eqs := [8] }
noncomputable def body97 : Code := match Tryz.f97.body with | some c => c | none => .skip
noncomputable def fn97 : Fun := { body := body97, ntmps := 9, results := [.tmp 2], types := [44], hint := hint97, keep := .clip }
def E97 : Env := { T := tiOf, hint := hint97 }
def hint98 : Hint := { reH := [3], eqr := true }
noncomputable def body98 : Code := match Tryz.f98.body with | some c => c | none => .skip
noncomputable def fn98 : Fun := { body := body98, ntmps := 17, results := [.cell 6 48], types := [48], hint := hint98, keep := .drop }
def E98 : Env := { T := tiOf, hint := hint98 }
def hint99 : Hint := { eqs := [12, 46] }
noncomputable def body99 : Code := match Tryz.f99.body with | some c => c | none => .skip
noncomputable def fn99 : Fun := { body := body99, ntmps := 49, results := [.tmp 4], types := [4], hint := hint99, keep := .keep }
def E99 : Env := { T := tiOf, hint := hint99 }
def hint100 : Hint := { reH := [2] }
noncomputable def body100 : Code := match Tryz.f100.body with | some c => c | none => .skip
noncomputable def fn100 : Fun := { body := body100, ntmps := 15, results := [], types := [], hint := hint100, keep := .keep }
def E100 : Env := { T := tiOf, hint := hint100 }
def hint101 : Hint := { eqs := [12] }
noncomputable def body101 : Code := match Tryz.f101.body with | some c => c | none => .skip
noncomputable def fn101 : Fun := { body := body101, ntmps := 33, results := [.tmp 4], types := [4], hint := hint101, keep := .keep }
def E101 : Env := { T := tiOf, hint := hint101 }
def hint102 : Hint := { eqs := [12, 24], dead := [(4, [0, 1, 4, 5, 7, 8, 9, 10, 11, 12, 13, 14, 15, 16, 17, 18, 19])], reH := [4, 6], joins := [4] }
noncomputable def body102 : Code := match Tryz.f102.body with | some c => c | none => .skip
noncomputable def fn102 : Fun := { body := body102, ntmps := 34, results := [], types := [], hint := hint102, keep := .keep }
def E102 : Env := { T := tiOf, hint := hint102 }
def hint103 : Hint := { eqs := [12] }
noncomputable def body103 : Code := match Tryz.f103.body with | some c => c | none => .skip
noncomputable def fn103 : Fun := { body := body103, ntmps := 26, results := [.tmp 4], types := [4], hint := hint103, keep := .keep }
def E103 : Env := { T := tiOf, hint := hint103 }
def hint104 : Hint := { eqs := [10], reH := [2] }
noncomputable def body104 : Code := match Tryz.f104.body with | some c => c | none => .skip
noncomputable def fn104 : Fun := { body := body104, ntmps := 16, results := [], types := [], hint := hint104, keep := .keep }
def E104 : Env := { T := tiOf, hint := hint104 }
def hint131 : Hint := { eqs := [14, 15] }
noncomputable def body131 : Code := match Tryz.f131.body with | some c => c | none => .skip
noncomputable def fn131 : Fun := { body := body131, ntmps := 16, results := [.tmp 2], types := [9], hint := hint131, keep := .drop }
def E131 : Env := { T := tiOf, hint := hint131 }
def hint132 : Hint := { }
noncomputable def body132 : Code := match Tryz.f132.body with | some c => c | none => .skip
noncomputable def fn132 : Fun := { body := body132, ntmps := 5, results := [.tmp 2], types := [34], hint := hint132, keep := .drop }
def E132 : Env := { T := tiOf, hint := hint132 }
def hint133 : Hint := { esc := [1] }
noncomputable def body133 : Code := match Tryz.f133.body with | some c => c | none => .skip
noncomputable def fn133 : Fun := { body := body133, ntmps := 4, results := [.tmp 2], types := [98], hint := hint133, keep := .keep }
def E133 : Env := { T := tiOf, hint := hint133 }
def hint134 : Hint := { esc := [29], dead := [(6, [0, 1, 6, 7, 8, 11, 12, 13, 14, 15, 16, 17, 18, 19, 20, 21, 22, 23, 24, 25, 26, 27, 28, 29, 30, 33, 34, 35, 36, 37, 38, 39, 40, 41, 42, 43, 44, 45, 46, 47, 48, 49, 50]), (13, [31, 32, 33])], reH := [5, 12], joins := [13], eqr := true }
noncomputable def body134 : Code := match Tryz.f134.body with | some c => c | none => .skip
noncomputable def fn134 : Fun := { body := body134, ntmps := 57, results := [.tmp 6, .tmp 7, .tmp 8], types := [62, 9, 4], hint := hint134, keep := .drop }
def E134 : Env := { T := tiOf, hint := hint134 }
def hint141 : Hint := { esc := [7], eqs := [7] }
noncomputable def body141 : Code := match Tryz.f141.body with | some c => c | none => .skip
noncomputable def fn141 : Fun := { body := body141, ntmps := 8, results := [.tmp 2], types := [44], hint := hint141, keep := .keep }
def E141 : Env := { T := tiOf, hint := hint141 }
def hint162 : Hint := { }
noncomputable def body162 : Code := match Tryz.f162.body with | some c => c | none => .skip
noncomputable def fn162 : Fun := { body := body162, ntmps := 10, results := [.tmp 4], types := [34], hint := hint162, keep := .drop }
def E162 : Env := { T := tiOf, hint := hint162 }
def hint163 : Hint := { dead := [(1, [1, 4, 5, 6, 7, 8, 9, 10, 11, 12, 13, 14, 15, 16, 17, 18, 19, 20, 21, 22, 23, 24, 25, 26])] }
noncomputable def body163 : Code := match Tryz.f163.body with | some c => c | none => .skip
noncomputable def fn163 : Fun := { body := body163, ntmps := 27, results := [], types := [], hint := hint163, keep := .keep }
def E163 : Env := { T := tiOf, hint := hint163 }
def hint190 : Hint := { esc := [5], eqs := [34, 41], dead := [(3, [4, 6, 9, 10, 11, 12, 13, 14, 15, 16]), (7, [8, 9]), (8, [17, 18, 19, 20, 21, 22, 23, 24, 25, 26, 27, 28, 29, 30, 31, 32, 33, 34, 35, 36, 37, 38, 39, 40, 41, 42])], reH := [2, 6], joins := [7] }
noncomputable def body190 : Code := match Tryz.f190.body with | some c => c | none => .skip
noncomputable def fn190 : Fun := { body := body190, ntmps := 44, results := [.tmp 4], types := [34], hint := hint190, keep := .drop }
def E190 : Env := { T := tiOf, hint := hint190 }
def hint203 : Hint := { dead := [(2, [1, 4, 16]), (6, [7, 8, 9, 10, 11, 12, 13, 14, 15])], joins := [6] }
noncomputable def body203 : Code := match Tryz.f203.body with | some c => c | none => .skip
noncomputable def fn203 : Fun := { body := body203, ntmps := 18, results := [.tmp 4], types := [34], hint := hint203, keep := .drop }
def E203 : Env := { T := tiOf, hint := hint203 }
def fnTab : List (Nat × Hint × Keep) := [(6, hint6, .drop), (7, hint7, .drop), (12, hint12, .drop), (14, hint14, .drop), (15, hint15, .drop), (16, hint16, .drop), (18, hint18, .drop), (20, hint20, .drop), (26, hint26, .drop), (27, hint27, .drop), (28, hint28, .drop), (29, hint29, .drop), (30, hint30, .drop), (39, hint39, .drop), (40, hint40, .drop), (41, hint41, .drop), (44, hint44, .drop), (45, hint45, .drop), (49, hint49, .keep), (51, hint51, .keep), (52, hint52, .drop), (53, hint53, .drop), (54, hint54, .drop), (57, hint57, .drop), (58, hint58, .drop), (59, hint59, .drop), (60, hint60, .drop), (61, hint61, .drop), (62, hint62, .drop), (63, hint63, .drop), (64, hint64, .drop), (65, hint65, .drop), (66, hint66, .drop), (67, hint67, .drop), (68, hint68, .keep), (69, hint69, .keep), (70, hint70, .drop), (71, hint71, .clip), (83, hint83, .keep), (84, hint84, .drop), (86, hint86, .drop), (87, hint87, .drop), (95, hint95, .clip), (96, hint96, .drop), (97, hint97, .clip), (98, hint98, .drop), (99, hint99, .keep), (100, hint100, .keep), (101, hint101, .keep), (102, hint102, .keep), (103, hint103, .keep), (104, hint104, .keep), (131, hint131, .drop), (132, hint132, .drop), (133, hint133, .keep), (134, hint134, .drop), (141, hint141, .keep), (162, hint162, .drop), (163, hint163, .keep), (190, hint190, .drop), (203, hint203, .drop)]
def rndTab : List (Nat × Hint × Keep) := [(8700, hint87, .keep)]
noncomputable def fnOf (f : FuncId) : Option Fun := match lkN f fnTab with
  | some (h, kp) => match Tryz.checked.prog.funcs[f]? with
    | some F => bif F.name == "runtime.NumGoroutine" then none else funOf F h kp
    | none => none
  | none => none
def relSorted (f : FuncId) (args : List AVal) (H : List HObj) (r : AVal) (H' : List HObj) : Prop :=
  f = 50 ∧ ∃ (q id : Nat) (L : List (ByteArray × Int)), args = [.func 94 [.href q 0]] ∧ H[q]? = some (.arr [.map id]) ∧ H[id]? = some (.map (entL AVal.str (AVal.int .i64) L)) ∧ L.length * 16 ≤ 140737488355328 ∧ (∀ p ∈ L, p.1.size ≤ 9223372036854775807) ∧ r = encL 1 AVal.str bE (isort (L.map (·.1))) ∧ H' = H
def extRel (f : FuncId) (args : List AVal) (H : List HObj) (r : AVal) (H' : List HObj) : Prop :=
  relSorted f args H r H' ∨ (f = 129 ∧ relWrite 126 5 args H r H') ∨ (f = 130 ∧ relByte 126 5 args H r H') ∨ (f = 85 ∧ relString 126 5 args H r H') ∨ (f = 38 ∧ relItoa args H r H') ∨ (f = 166 ∧ relAtoi args H r H') ∨ (f = 164 ∧ relCut args H r H') ∨ (f = 165 ∧ relSplit args H r H')
noncomputable def G : Prog := { T := tiOf, fns := fnOf, ext := extRel, rnds := fun i => lkN i rndTab }
def Cn (n : Nat) : FuncId → List AVal → List HObj → AVal → List HObj → Prop := fun g args H r H' => CallIn (Run G n g) args H r H'
theorem cnR {n : Nat} {f : FuncId} {args : List AVal} {H H' : List HObj} {r : AVal} (h : Run G n f args H r H') : Cn n f args H r H' := .inr h
theorem cnL {n : Nat} {f : FuncId} {args : List AVal} {H H0 : List HObj} {r : AVal} (h1 : args.all noRefArg = true) (h2 : noRefAll r = true) (h : Run G n f args [] r H0) : Cn n f args H r H := .inl ⟨h1, h2, rfl, _, h⟩
theorem Dq {α β R : Type} {n : Nat} {enc : α → R} {t : Tree R} {x : Option β} {J : β → Option α} (e : β → AVal × List HObj) {f : FuncId} {args : List AVal} (H : List HObj) (hc : ∀ b, x = some b → Run G n f args [] (e b).1 (e b).2)
    (h1 : ∀ b, Dn (Cn n) enc (t.go (e b).1 H) (J b)) (h : t.head = .call f args H := by kernel_rfl) (h2 : args.all noRefArg = true := by kernel_rfl) (h3 : ∀ b, noRefAll (e b).1 = true := by (intro b; kernel_rfl)) : Dn (Cn n) enc t (x.bind J) :=
  Dn.call (fun b => (e b).1) (fun _ => H) h (fun b hb => cnL h2 (h3 b) (hc b hb)) h1
theorem Dqm {α β R : Type} {n : Nat} {enc : α → R} {t : Tree R} {x : Option β} {J : β → Option α} (e : β → AVal × List HObj) {f : FuncId} {args : List AVal} (H : List HObj) (hc : ∀ b, x = some b → Run G n f args [] (e b).1 (e b).2)
    (h1 : ∀ b, Dn (Cn n) enc (t.go (e b).1 H) (J b)) (h : t.head = .call f args H := by kernel_rfl) (h2 : args.all noRefArg = true := by kernel_rfl) (h3 : ∀ b, noRefAll (e b).1 = true := by (intro b; cases b <;> rfl)) : Dn (Cn n) enc t (x.bind J) :=
  Dn.call (fun b => (e b).1) (fun _ => H) h (fun b hb => cnL h2 (h3 b) (hc b hb)) h1
theorem Dp {α β R : Type} {n : Nat} {enc : α → R} {t : Tree R} {x : Option β} {J : β → Option α} (e : β → AVal × List HObj) {f : FuncId} {args : List AVal} {H : List HObj} (hc : ∀ b, x = some b → Run G n f args H (e b).1 (e b).2)
    (h1 : ∀ b, Dn (Cn n) enc (t.go (e b).1 (e b).2) (J b)) (h : t.head = .call f args H := by kernel_rfl) : Dn (Cn n) enc t (x.bind J) :=
  Dn.call (fun b => (e b).1) (fun b => (e b).2) h (fun b hb => cnR (hc b hb)) h1
theorem run_of {n : Nat} {f : FuncId} {fn : Fun} {args : List AVal} {H : List HObj} {r : AVal × List HObj} (hf : fnOf f = some fn) (h : Den (Cn n) (enter { T := tiOf, hint := fn.hint } n fn args H) r) : Run G (n + 1) f args H r.1 r.2 := .inr (.inl ⟨fn, hf, h⟩)
theorem rnd_of {n i id : Nat} {L : LoopC} {ts args : List AVal} {h : Hint} {kp : Keep} {H : List HObj} {r : AVal × List HObj} (hH : H[id]? = some (.loop L ts .ready)) (hi : L.id = i) (hl : args.length = L.params.length) (hr : lkN i rndTab = some (h, kp)) (hd : Den (Cn n) (enterRound { T := tiOf, hint := h, rnd := true } n L kp id ts args H) r) : Run G (n + 1) (rnd0 + i) (.yld id :: args) H r.1 r.2 :=
  .inr (.inr ⟨i, id, args, L, ts, h, kp, rfl, rfl, hH, hi, hl, hr, hd⟩)
theorem bwrite_ok {n id : Nat} {H : List HObj} {b s c : ByteArray} (h1 : H[id]? = some (.bld 126 5 b)) (h : bWrite n b s = some c) : Run G n 129 [.href id 0, .str s] H (.tuple [.int .i64 s.size, .nilIface]) (H.set id (.bld 126 5 c)) := by
  cases n with
  | zero => cases h
  | succ n =>
    unfold bWrite at h
    cases hc : decide (b.size + s.size ≤ 140737488355328) with
    | false => simp only [hc, cond_false] at h; cases h
    | true =>
      simp only [hc, cond_true, Option.some.injEq] at h
      subst h
      exact .inl (.inr (.inl ⟨rfl, id, b, s, rfl, h1, of_decide_eq_true hc, rfl, rfl⟩))
theorem bbyte_ok {n id : Nat} {H : List HObj} {b d : ByteArray} {c : Int} (h1 : H[id]? = some (.bld 126 5 b)) (h : bByte n b c = some d) : Run G n 130 [.href id 0, .int .u8 c] H .nilIface (H.set id (.bld 126 5 d)) := by
  cases n with
  | zero => cases h
  | succ n =>
    unfold bByte at h
    cases hc : (decide (b.size + 1 ≤ 140737488355328) && (decide (0 ≤ c) && decide (c < 256))) with
    | false => simp only [hc, cond_false] at h; cases h
    | true =>
      simp only [hc, cond_true, Option.some.injEq] at h
      subst h
      simp only [Bool.and_eq_true, decide_eq_true_eq] at hc
      exact .inl (.inr (.inr (.inl ⟨rfl, id, b, c, rfl, h1, hc.1, hc.2.1, hc.2.2, rfl, rfl⟩)))
theorem bstring_ok {n id : Nat} {H : List HObj} {b c : ByteArray} (h1 : H[id]? = some (.bld 126 5 b)) (h : bString n b = some c) : Run G n 85 [.href id 0] H (.str c) H := by
  cases n with
  | zero => cases h
  | succ n =>
    unfold bString at h
    cases hc : decide (1 ≤ b.size) with
    | false => simp only [hc, cond_false] at h; cases h
    | true =>
      simp only [hc, cond_true, Option.some.injEq] at h
      subst h
      exact .inl (.inr (.inr (.inr (.inl ⟨rfl, id, b, rfl, h1, of_decide_eq_true hc, rfl, rfl⟩))))
theorem itoa_ok {n : Nat} {H : List HObj} {x : Int} {b : ByteArray} (h : itoaS n x = some b) : Run G n 38 [.int .i64 x] H (.str b) H := by
  cases n with
  | zero => cases h
  | succ n => exact .inl (.inr (.inr (.inr (.inr (.inl ⟨rfl, rel_itoa H h⟩)))))
theorem atoi_ok {n : Nat} {H : List HObj} {s : ByteArray} {b : AtoiR} (h : atoiS n s = some b) : Run G n 166 [.str s] H (atoiE H b).1 (atoiE H b).2 := by
  cases n with
  | zero => cases h
  | succ n => exact .inl (.inr (.inr (.inr (.inr (.inr (.inl ⟨rfl, rel_atoi H h⟩))))))
theorem cut_ok {n : Nat} {H : List HObj} {s sep : ByteArray} {b : ByteArray × ByteArray × Bool} (h : cutS n s sep = some b) : Run G n 164 [.str s, .str sep] H (.tuple [.str b.1, .str b.2.1, .bool b.2.2]) H := by
  cases n with
  | zero => cases h
  | succ n => exact .inl (.inr (.inr (.inr (.inr (.inr (.inr (.inl ⟨rfl, rel_cut H h⟩)))))))
theorem split_ok {n : Nat} {H : List HObj} {s sep : ByteArray} {b : List ByteArray} (h : splitS n s sep = some b) : Run G n 165 [.str s, .str sep] H (encL 1 AVal.str bE b) H := by
  cases n with
  | zero => cases h
  | succ n => exact .inl (.inr (.inr (.inr (.inr (.inr (.inr (.inr (⟨rfl, rel_split H h⟩))))))))
theorem sorted_ok {n q id : Nat} {H : List HObj} {L : List (ByteArray × Int)} {b : List ByteArray} (h1 : H[q]? = some (.arr [.map id])) (h2 : H[id]? = some (.map (entL AVal.str (AVal.int .i64) L))) (h : sortedKeys n L = some b) : Run G n 50 [.func 94 [.href q 0]] H (encL 1 AVal.str bE b) H := by
  cases n with
  | zero => cases h
  | succ n =>
    unfold sortedKeys at h
    cases hc : (decide (L.length * 16 ≤ 140737488355328) && L.all (fun p => decide (p.1.size ≤ 9223372036854775807))) with
    | false => rw [hc] at h; cases h
    | true =>
      rw [hc] at h; cases h
      simp only [Bool.and_eq_true, decide_eq_true_eq, List.all_eq_true] at hc
      exact .inl (.inl ⟨rfl, q, id, L, rfl, h1, h2, hc.1, hc.2, rfl, rfl⟩)

end Go.Proofs.YtomalcfghdaghaaGreatDoor
