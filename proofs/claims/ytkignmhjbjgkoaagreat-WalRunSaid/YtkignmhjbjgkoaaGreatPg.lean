/- PRINTED: the functions of the program, as the machine needs them. -/
import Derived.Test.YtkignmhjbjgkoaaGreatAmTab
import Derived.Test.YtkignmhjbjgkoaaGreatAmX
set_option linter.unusedVariables false
set_option maxRecDepth 100000
set_option maxHeartbeats 0
namespace Go.Proofs.YtkignmhjbjgkoaaGreat
open Go Go.AM
def hint4 : Hint := { eqs := [37, 82, 114], dead := [(8, [0, 1, 4, 6, 15, 16, 17, 18, 19, 20, 21, 22, 23, 24, 26, 27, 28, 29, 30, 31, 32, 33, 34, 35, 36, 126, 127, 128, 129, 130, 131, 132, 133, 134, 135, 136, 137, 138]), (19, [10, 12, 40, 41, 42, 43, 44, 45, 46, 47, 48, 49, 50, 51, 52, 59, 60, 61, 62, 63, 64, 65, 66, 67, 68, 69, 70, 71, 72, 73, 74, 75, 76, 77, 78, 79, 80, 81, 82, 83, 84, 85, 86]), (25, [10, 11, 13, 14, 40, 41, 42, 43, 44, 45, 46, 47, 48, 49, 50, 51, 52, 53, 54, 55, 56, 57, 58, 59, 60, 61, 62, 63, 64, 65, 66, 67, 68, 87, 88, 89, 90, 91, 92, 93, 94, 95, 96, 97, 98, 99, 100, 101, 102, 103, 104, 105, 106, 107, 108, 109, 110, 111, 112, 113, 114, 115, 116, 117, 118, 119, 120, 121, 122, 123, 124, 125]), (29, [5, 7, 8, 37, 38, 39, 40])], weak := [(8, [7, 8])], joins := [19, 25, 29] }
noncomputable def body4 : Code := match Tryz.f4.body with | some c => c | none => .skip
noncomputable def fn4 : Fun := { body := body4, ntmps := 140, results := [.tmp 4], types := [4], hint := hint4, keep := .drop }
def E4 : Env := { T := tiOf, hint := hint4 }
def hint6 : Hint := { eqs := [55] }
noncomputable def body6 : Code := match Tryz.f6.body with | some c => c | none => .skip
noncomputable def fn6 : Fun := { body := body6, ntmps := 90, results := [.tmp 0], types := [4], hint := hint6, keep := .drop }
def E6 : Env := { T := tiOf, hint := hint6 }
def hint7 : Hint := { gh := [(1, [.frz 3])] }
noncomputable def body7 : Code := match Tryz.f7.body with | some c => c | none => .skip
noncomputable def fn7 : Fun := { body := body7, ntmps := 32, results := [.cell 4 31, .tmp 5], types := [31, 32], hint := hint7, keep := .drop }
def E7 : Env := { T := tiOf, hint := hint7 }
def hint9 : Hint := { gh := [(1, [.frz 3]), (6, [.frz 9])] }
noncomputable def body9 : Code := match Tryz.f9.body with | some c => c | none => .skip
noncomputable def fn9 : Fun := { body := body9, ntmps := 54, results := [.cell 4 31, .tmp 5], types := [31, 32], hint := hint9, keep := .drop }
def E9 : Env := { T := tiOf, hint := hint9 }
def hint12 : Hint := { dead := [(2, [2, 4, 8, 9, 10, 11, 12, 13, 14, 15, 16, 17, 18, 19, 20, 21, 22, 23, 24, 25, 26]), (7, [5, 6, 7, 8])], joins := [7] }
noncomputable def body12 : Code := match Tryz.f12.body with | some c => c | none => .skip
noncomputable def fn12 : Fun := { body := body12, ntmps := 30, results := [.tmp 2], types := [4], hint := hint12, keep := .drop }
def E12 : Env := { T := tiOf, hint := hint12 }
def hint13 : Hint := { eqs := [26], dead := [(5, [1, 3, 4, 5, 7, 8, 9, 10, 11, 12, 13, 14, 15, 16, 17, 18, 19, 20, 21, 22, 23, 24, 25, 29, 30, 31, 32, 33, 36]), (10, [26, 27, 28, 29])], joins := [10] }
noncomputable def body13 : Code := match Tryz.f13.body with | some c => c | none => .skip
noncomputable def fn13 : Fun := { body := body13, ntmps := 41, results := [.cell 0 31, .tmp 1], types := [31, 32], hint := hint13, keep := .drop }
def E13 : Env := { T := tiOf, hint := hint13 }
def hint14 : Hint := { eqs := [7], eqr := true }
noncomputable def body14 : Code := match Tryz.f14.body with | some c => c | none => .skip
noncomputable def fn14 : Fun := { body := body14, ntmps := 8, results := [.tmp 2], types := [37], hint := hint14, keep := .own }
def E14 : Env := { T := tiOf, hint := hint14 }
def hint15 : Hint := { esc := [2, 9, 57], eqs := [85], dead := [(7, [0, 5, 6, 8, 15, 16, 17, 18, 21, 22, 23, 28, 29, 30, 31, 32, 33, 35]), (12, [25, 26, 27, 28]), (14, [11, 39, 40, 41, 42, 43, 44, 45, 46, 47, 48, 49, 51]), (20, [36, 37, 38, 39])], joins := [12, 20], bl := [(48, 78, 5)], bld := [(78, 5)] }
noncomputable def body15 : Code := match Tryz.f15.body with | some c => c | none => .skip
noncomputable def fn15 : Fun := { body := body15, ntmps := 88, results := [.cell 4 31, .tmp 5], types := [31, 32], hint := hint15, keep := .drop }
def E15 : Env := { T := tiOf, hint := hint15 }
def hint16 : Hint := { eqs := [7] }
noncomputable def body16 : Code := match Tryz.f16.body with | some c => c | none => .skip
noncomputable def fn16 : Fun := { body := body16, ntmps := 8, results := [.tmp 2], types := [29], hint := hint16, keep := .own }
def E16 : Env := { T := tiOf, hint := hint16 }
def hint17 : Hint := { }
noncomputable def body17 : Code := match Tryz.f17.body with | some c => c | none => .skip
noncomputable def fn17 : Fun := { body := body17, ntmps := 15, results := [.cell 4 31, .tmp 5], types := [31, 32], hint := hint17, keep := .drop }
def E17 : Env := { T := tiOf, hint := hint17 }
def hint18 : Hint := { eqs := [14] }
noncomputable def body18 : Code := match Tryz.f18.body with | some c => c | none => .skip
noncomputable def fn18 : Fun := { body := body18, ntmps := 18, results := [.tmp 4], types := [4], hint := hint18, keep := .drop }
def E18 : Env := { T := tiOf, hint := hint18 }
def hint19 : Hint := { dead := [(5, [0, 1, 2, 4, 6, 7, 8, 9, 10, 11, 12, 13, 14, 15, 16, 17, 18, 19, 20, 21, 22, 23, 24, 25, 26, 30, 31, 32, 33, 34, 35, 36, 37, 38, 39, 40, 41, 42, 43, 44, 45, 46]), (14, [27, 28, 29, 30])], joins := [14] }
noncomputable def body19 : Code := match Tryz.f19.body with | some c => c | none => .skip
noncomputable def fn19 : Fun := { body := body19, ntmps := 49, results := [.tmp 2], types := [32], hint := hint19, keep := .drop }
def E19 : Env := { T := tiOf, hint := hint19 }
def hint20 : Hint := { }
noncomputable def body20 : Code := match Tryz.f20.body with | some c => c | none => .skip
noncomputable def fn20 : Fun := { body := body20, ntmps := 23, results := [.tmp 4, .tmp 5], types := [9, 32], hint := hint20, keep := .drop }
def E20 : Env := { T := tiOf, hint := hint20 }
def hint21 : Hint := { }
noncomputable def body21 : Code := match Tryz.f21.body with | some c => c | none => .skip
noncomputable def fn21 : Fun := { body := body21, ntmps := 18, results := [.tmp 2], types := [9], hint := hint21, keep := .drop }
def E21 : Env := { T := tiOf, hint := hint21 }
def hint22 : Hint := { esc := [4, 5], eqs := [15], dead := [(6, [0, 2, 3, 8, 9]), (8, [0, 2, 3, 8, 9])], rid := [(6, 2200)], joins := [8] }
noncomputable def body22 : Code := match Tryz.f22.body with | some c => c | none => .skip
noncomputable def fn22 : Fun := { body := body22, ntmps := 19, results := [.tmp 2, .tmp 3], types := [29, 3], hint := hint22, keep := .drop }
def E22 : Env := { T := tiOf, hint := hint22 }
def ER22 : Env := { T := tiOf, hint := hint22, rnd := true }
noncomputable def rb2200 : Code := subc body22 [1, 1, 1, 0, 1, 0, 1]
noncomputable def L2200 : LoopC := ⟨2200, [10, 11], subc body22 [1, 1, 1, 0, 1, 0, 0], rb2200⟩
def hint23 : Hint := { eqs := [27, 55] }
noncomputable def body23 : Code := match Tryz.f23.body with | some c => c | none => .skip
noncomputable def fn23 : Fun := { body := body23, ntmps := 62, results := [.cell 4 26, .tmp 5], types := [26, 32], hint := hint23, keep := .drop }
def E23 : Env := { T := tiOf, hint := hint23 }
def hint24 : Hint := { }
noncomputable def body24 : Code := match Tryz.f24.body with | some c => c | none => .skip
noncomputable def fn24 : Fun := { body := body24, ntmps := 2, results := [.cell 0 26], types := [26], hint := hint24, keep := .clip }
def E24 : Env := { T := tiOf, hint := hint24 }
def hint25 : Hint := { }
noncomputable def body25 : Code := match Tryz.f25.body with | some c => c | none => .skip
noncomputable def fn25 : Fun := { body := body25, ntmps := 47, results := [.cell 6 26, .tmp 7], types := [26, 32], hint := hint25, keep := .drop }
def E25 : Env := { T := tiOf, hint := hint25 }
def hint26 : Hint := { dead := [(4, [4, 5, 6, 7, 8, 9, 10, 11, 14, 15, 16, 17, 18, 19, 20, 21, 22, 23, 24, 25])] }
noncomputable def body26 : Code := match Tryz.f26.body with | some c => c | none => .skip
noncomputable def fn26 : Fun := { body := body26, ntmps := 26, results := [.tmp 4], types := [4], hint := hint26, keep := .drop }
def E26 : Env := { T := tiOf, hint := hint26 }
def hint27 : Hint := { }
noncomputable def body27 : Code := match Tryz.f27.body with | some c => c | none => .skip
noncomputable def fn27 : Fun := { body := body27, ntmps := 12, results := [.tmp 2], types := [32], hint := hint27, keep := .drop }
def E27 : Env := { T := tiOf, hint := hint27 }
def hint28 : Hint := { dead := [(2, [0, 1, 5, 7, 8, 9, 13, 14, 15, 16, 17, 18, 19, 20, 21, 22, 23, 26, 27])] }
noncomputable def body28 : Code := match Tryz.f28.body with | some c => c | none => .skip
noncomputable def fn28 : Fun := { body := body28, ntmps := 29, results := [.cell 4 26, .tmp 5], types := [26, 32], hint := hint28, keep := .keep }
def E28 : Env := { T := tiOf, hint := hint28 }
def hint29 : Hint := { }
noncomputable def body29 : Code := match Tryz.f29.body with | some c => c | none => .skip
noncomputable def fn29 : Fun := { body := body29, ntmps := 10, results := [.cell 3 26, .tmp 4], types := [26, 32], hint := hint29, keep := .drop }
def E29 : Env := { T := tiOf, hint := hint29 }
def hint30 : Hint := { esc := [26], eqs := [39, 50, 69, 71, 74], dead := [(7, [0, 3, 5, 12, 13, 14, 15, 16, 17, 18, 20, 21, 22, 23, 24, 25, 26, 27, 52]), (12, [8, 9, 31, 32, 33, 34, 35, 36, 37, 38, 39, 40, 41, 42, 43, 44, 45, 46, 47, 48, 49, 50, 51]), (13, [28, 29, 30, 31]), (14, [11, 53, 54, 55, 59, 60, 61, 62, 63, 64, 65, 66, 67, 68, 69, 70, 71, 72, 73, 74, 75, 76]), (18, [4, 7, 56, 57, 58, 59])], reH := [6, 11], joins := [12, 13, 18] }
noncomputable def body30 : Code := match Tryz.f30.body with | some c => c | none => .skip
noncomputable def fn30 : Fun := { body := body30, ntmps := 82, results := [.cell 2 26, .tmp 3], types := [26, 32], hint := hint30, keep := .drop }
def E30 : Env := { T := tiOf, hint := hint30 }
def hint31 : Hint := { }
noncomputable def body31 : Code := match Tryz.f31.body with | some c => c | none => .skip
noncomputable def fn31 : Fun := { body := body31, ntmps := 13, results := [.cell 4 31, .tmp 5], types := [31, 32], hint := hint31, keep := .drop }
def E31 : Env := { T := tiOf, hint := hint31 }
def hint35 : Hint := { }
noncomputable def body35 : Code := match Tryz.f35.body with | some c => c | none => .skip
noncomputable def fn35 : Fun := { body := body35, ntmps := 12, results := [.cell 4 26, .tmp 5], types := [26, 32], hint := hint35, keep := .drop }
def E35 : Env := { T := tiOf, hint := hint35 }
def hint36 : Hint := { }
noncomputable def body36 : Code := match Tryz.f36.body with | some c => c | none => .skip
noncomputable def fn36 : Fun := { body := body36, ntmps := 54, results := [.cell 6 26, .tmp 7], types := [26, 32], hint := hint36, keep := .drop }
def E36 : Env := { T := tiOf, hint := hint36 }
def hint37 : Hint := { }
noncomputable def body37 : Code := match Tryz.f37.body with | some c => c | none => .skip
noncomputable def fn37 : Fun := { body := body37, ntmps := 10, results := [.cell 3 26, .tmp 4], types := [26, 32], hint := hint37, keep := .drop }
def E37 : Env := { T := tiOf, hint := hint37 }
def hint38 : Hint := { }
noncomputable def body38 : Code := match Tryz.f38.body with | some c => c | none => .skip
noncomputable def fn38 : Fun := { body := body38, ntmps := 36, results := [.cell 4 26, .tmp 5], types := [26, 32], hint := hint38, keep := .drop }
def E38 : Env := { T := tiOf, hint := hint38 }
def hint45 : Hint := { }
noncomputable def body45 : Code := match Tryz.f45.body with | some c => c | none => .skip
noncomputable def fn45 : Fun := { body := body45, ntmps := 9, results := [.tmp 4], types := [4], hint := hint45, keep := .drop }
def E45 : Env := { T := tiOf, hint := hint45 }
def hint46 : Hint := { }
noncomputable def body46 : Code := match Tryz.f46.body with | some c => c | none => .skip
noncomputable def fn46 : Fun := { body := body46, ntmps := 6, results := [.tmp 2], types := [4], hint := hint46, keep := .drop }
def E46 : Env := { T := tiOf, hint := hint46 }
def hint49 : Hint := { bs := [(50, 78, 5)] }
noncomputable def body49 : Code := match Tryz.f49.body with | some c => c | none => .skip
noncomputable def fn49 : Fun := { body := body49, ntmps := 13, results := [.cell 4 26, .tmp 5], types := [26, 32], hint := hint49, keep := .keep }
def E49 : Env := { T := tiOf, hint := hint49 }
def hint51 : Hint := { }
noncomputable def body51 : Code := match Tryz.f51.body with | some c => c | none => .skip
noncomputable def fn51 : Fun := { body := body51, ntmps := 11, results := [.cell 3 26, .tmp 4], types := [26, 32], hint := hint51, keep := .keep }
def E51 : Env := { T := tiOf, hint := hint51 }
def hint52 : Hint := { eqs := [8] }
noncomputable def body52 : Code := match Tryz.f52.body with | some c => c | none => .skip
noncomputable def fn52 : Fun := { body := body52, ntmps := 9, results := [.tmp 2], types := [29], hint := hint52, keep := .clip }
def E52 : Env := { T := tiOf, hint := hint52 }
def hint53 : Hint := { esc := [3, 9], eqs := [47, 82, 106, 114], dead := [(11, [0, 1, 3, 5, 6, 8, 9, 11, 21, 22, 23, 24, 25, 26, 27, 29, 30, 31, 32, 33, 34, 35, 37, 38, 39, 40, 41, 42, 43, 44, 45, 46, 65]), (16, [13, 14, 15, 50, 51, 52, 53, 54, 55, 56, 57, 58, 59, 60, 61, 62, 63, 64]), (17, [47, 48, 49, 50]), (19, [17, 18, 19, 20, 66, 67, 68, 69, 73, 74, 75, 76, 77, 78, 79, 80, 81, 82, 83, 84, 85, 86, 87, 88, 89, 90, 91, 92, 93, 94, 95, 96, 97, 98, 99, 100, 101, 102, 103, 104, 105, 106, 107, 108, 109, 110, 111, 112, 113, 114, 115, 116]), (26, [2, 7, 10, 70, 71, 72, 73])], joins := [16, 17, 26] }
noncomputable def body53 : Code := match Tryz.f53.body with | some c => c | none => .skip
noncomputable def fn53 : Fun := { body := body53, ntmps := 118, results := [.cell 4 26], types := [26], hint := hint53, keep := .drop }
def E53 : Env := { T := tiOf, hint := hint53 }
def hint54 : Hint := { }
noncomputable def body54 : Code := match Tryz.f54.body with | some c => c | none => .skip
noncomputable def fn54 : Fun := { body := body54, ntmps := 11, results := [.tmp 4, .tmp 5], types := [9, 4], hint := hint54, keep := .drop }
def E54 : Env := { T := tiOf, hint := hint54 }
def hint55 : Hint := { eqs := [20] }
noncomputable def body55 : Code := match Tryz.f55.body with | some c => c | none => .skip
noncomputable def fn55 : Fun := { body := body55, ntmps := 26, results := [.tmp 4, .tmp 5], types := [3, 32], hint := hint55, keep := .drop }
def E55 : Env := { T := tiOf, hint := hint55 }
def hint56 : Hint := { eqs := [16], nils := [81] }
noncomputable def body56 : Code := match Tryz.f56.body with | some c => c | none => .skip
noncomputable def fn56 : Fun := { body := body56, ntmps := 18, results := [.tmp 4, .tmp 5], types := [9, 32], hint := hint56, keep := .drop }
def E56 : Env := { T := tiOf, hint := hint56 }
def hint57 : Hint := { }
noncomputable def body57 : Code := match Tryz.f57.body with | some c => c | none => .skip
noncomputable def fn57 : Fun := { body := body57, ntmps := 8, results := [.tmp 2], types := [9], hint := hint57, keep := .drop }
def E57 : Env := { T := tiOf, hint := hint57 }
def hint58 : Hint := { esc := [1] }
noncomputable def body58 : Code := match Tryz.f58.body with | some c => c | none => .skip
noncomputable def fn58 : Fun := { body := body58, ntmps := 4, results := [.tmp 2], types := [92], hint := hint58, keep := .keep }
def E58 : Env := { T := tiOf, hint := hint58 }
def hint59 : Hint := { dead := [(4, [0, 3, 5, 12, 13, 14, 15, 16, 17, 18, 19, 20, 21, 22, 23, 24, 25, 26, 28, 32, 33, 34, 35, 36, 37, 38, 39, 40, 41, 42, 43, 44, 45, 46, 47, 48, 49, 50, 51, 53]), (9, [29, 30, 31, 32]), (13, [1, 7, 9, 10, 11, 54, 55, 56, 57, 58, 59, 60, 62, 66, 67, 68, 69, 70, 71, 72, 73, 74, 75, 76, 77, 78, 79, 80, 81, 82, 83, 84, 86, 87, 88, 89, 90, 91]), (20, [63, 64, 65, 66])], joins := [9, 20] }
noncomputable def body59 : Code := match Tryz.f59.body with | some c => c | none => .skip
noncomputable def fn59 : Fun := { body := body59, ntmps := 93, results := [.cell 2 97, .tmp 3], types := [97, 4], hint := hint59, keep := .keep }
def E59 : Env := { T := tiOf, hint := hint59 }
def hint60 : Hint := { dead := [(4, [2, 4, 5, 6, 7, 8, 9, 10, 11, 12, 13, 14, 36, 37, 38, 39, 40, 41, 42, 43, 44, 45, 46, 47, 48, 49, 50, 51, 52, 53, 54, 55, 56, 57, 58]), (8, [3, 17, 18, 19, 20, 21, 22, 23, 24, 25, 26, 27, 28, 29, 30, 31, 32, 33, 34, 35])], joins := [8] }
noncomputable def body60 : Code := match Tryz.f60.body with | some c => c | none => .skip
noncomputable def fn60 : Fun := { body := body60, ntmps := 59, results := [.tmp 2], types := [4], hint := hint60, keep := .drop }
def E60 : Env := { T := tiOf, hint := hint60 }
def hint61 : Hint := { eqs := [10] }
noncomputable def body61 : Code := match Tryz.f61.body with | some c => c | none => .skip
noncomputable def fn61 : Fun := { body := body61, ntmps := 13, results := [.cell 4 26], types := [26], hint := hint61, keep := .drop }
def E61 : Env := { T := tiOf, hint := hint61 }
def hint62 : Hint := { eqs := [8] }
noncomputable def body62 : Code := match Tryz.f62.body with | some c => c | none => .skip
noncomputable def fn62 : Fun := { body := body62, ntmps := 9, results := [.tmp 2], types := [22], hint := hint62, keep := .clip }
def E62 : Env := { T := tiOf, hint := hint62 }
def hint63 : Hint := { dead := [(5, [0, 1, 2, 5, 6, 7, 8, 10, 11, 12, 13, 14, 15, 16])], joins := [5] }
noncomputable def body63 : Code := match Tryz.f63.body with | some c => c | none => .skip
noncomputable def fn63 : Fun := { body := body63, ntmps := 18, results := [.cell 4 26, .tmp 5], types := [26, 32], hint := hint63, keep := .drop }
def E63 : Env := { T := tiOf, hint := hint63 }
def hint64 : Hint := { reH := [3], eqr := true }
noncomputable def body64 : Code := match Tryz.f64.body with | some c => c | none => .skip
noncomputable def fn64 : Fun := { body := body64, ntmps := 17, results := [.cell 6 26], types := [26], hint := hint64, keep := .drop }
def E64 : Env := { T := tiOf, hint := hint64 }
def hint66 : Hint := { esc := [1] }
noncomputable def body66 : Code := match Tryz.f66.body with | some c => c | none => .skip
noncomputable def fn66 : Fun := { body := body66, ntmps := 4, results := [.tmp 2], types := [108], hint := hint66, keep := .keep }
def E66 : Env := { T := tiOf, hint := hint66 }
def hint75 : Hint := { dead := [(2, [4, 5, 6, 9, 10, 11, 12, 13, 14, 15, 16, 18])] }
noncomputable def body75 : Code := match Tryz.f75.body with | some c => c | none => .skip
noncomputable def fn75 : Fun := { body := body75, ntmps := 19, results := [.tmp 4], types := [3], hint := hint75, keep := .drop }
def E75 : Env := { T := tiOf, hint := hint75 }
def hint77 : Hint := { esc := [11], eqs := [59], dead := [(3, [0, 3, 5, 6, 7, 8, 9, 10, 11, 12, 13, 17, 18, 19, 20, 21, 22, 23, 24, 25, 26, 27, 28, 29, 30, 31, 32, 33, 34, 35, 36, 37, 38, 39, 40, 42, 43, 44, 45, 46, 47, 48, 49, 50, 51, 52, 53, 54, 55, 56, 57, 58, 59, 60, 62, 63, 64, 65, 66, 67, 68, 69, 70, 71, 72, 73]), (12, [1, 14, 15, 16, 17])], reH := [2, 10, 11], joins := [12] }
noncomputable def body77 : Code := match Tryz.f77.body with | some c => c | none => .skip
noncomputable def fn77 : Fun := { body := body77, ntmps := 75, results := [.cell 2 97, .tmp 3], types := [97, 4], hint := hint77, keep := .keep }
def E77 : Env := { T := tiOf, hint := hint77 }
def hint78 : Hint := { }
noncomputable def body78 : Code := match Tryz.f78.body with | some c => c | none => .skip
noncomputable def fn78 : Fun := { body := body78, ntmps := 24, results := [.tmp 4], types := [3], hint := hint78, keep := .keep }
def E78 : Env := { T := tiOf, hint := hint78 }
def hint79 : Hint := { }
noncomputable def body79 : Code := match Tryz.f79.body with | some c => c | none => .skip
noncomputable def fn79 : Fun := { body := body79, ntmps := 15, results := [.cell 2 121, .tmp 3], types := [121, 4], hint := hint79, keep := .drop }
def E79 : Env := { T := tiOf, hint := hint79 }
def hint80 : Hint := { }
noncomputable def body80 : Code := match Tryz.f80.body with | some c => c | none => .skip
noncomputable def fn80 : Fun := { body := body80, ntmps := 15, results := [.tmp 4, .tmp 5], types := [9, 4], hint := hint80, keep := .drop }
def E80 : Env := { T := tiOf, hint := hint80 }
def hint81 : Hint := { eqs := [13, 20], dead := [(1, [4, 5, 6, 7, 8, 9, 10, 11, 12, 13, 14, 15]), (4, [5, 6])], joins := [4] }
noncomputable def body81 : Code := match Tryz.f81.body with | some c => c | none => .skip
noncomputable def fn81 : Fun := { body := body81, ntmps := 21, results := [.tmp 4], types := [76], hint := hint81, keep := .drop }
def E81 : Env := { T := tiOf, hint := hint81 }
def hint82 : Hint := { eqs := [14, 15] }
noncomputable def body82 : Code := match Tryz.f82.body with | some c => c | none => .skip
noncomputable def fn82 : Fun := { body := body82, ntmps := 16, results := [.tmp 2], types := [9], hint := hint82, keep := .drop }
def E82 : Env := { T := tiOf, hint := hint82 }
def hint83 : Hint := { }
noncomputable def body83 : Code := match Tryz.f83.body with | some c => c | none => .skip
noncomputable def fn83 : Fun := { body := body83, ntmps := 5, results := [.tmp 2], types := [127], hint := hint83, keep := .drop }
def E83 : Env := { T := tiOf, hint := hint83 }
def hint84 : Hint := { dead := [(1, [4, 5, 6, 7, 8, 9, 10, 11, 12, 13, 14, 15, 16, 17, 18, 19, 20, 21, 22, 23, 24, 25, 26, 27, 28, 29, 30, 31, 32, 33, 34, 35, 36, 37, 38, 39, 40, 41, 42, 43, 44, 45, 46, 47, 48, 49, 50, 51, 52, 53, 54, 55, 56, 57])] }
noncomputable def body84 : Code := match Tryz.f84.body with | some c => c | none => .skip
noncomputable def fn84 : Fun := { body := body84, ntmps := 58, results := [], types := [], hint := hint84, keep := .keep }
def E84 : Env := { T := tiOf, hint := hint84 }
def hint85 : Hint := { }
noncomputable def body85 : Code := match Tryz.f85.body with | some c => c | none => .skip
noncomputable def fn85 : Fun := { body := body85, ntmps := 22, results := [.tmp 2, .tmp 3, .tmp 4], types := [3, 3, 32], hint := hint85, keep := .drop }
def E85 : Env := { T := tiOf, hint := hint85 }
def hint86 : Hint := { }
noncomputable def body86 : Code := match Tryz.f86.body with | some c => c | none => .skip
noncomputable def fn86 : Fun := { body := body86, ntmps := 22, results := [.tmp 2, .tmp 3], types := [9, 32], hint := hint86, keep := .drop }
def E86 : Env := { T := tiOf, hint := hint86 }
def hint87 : Hint := { eqs := [8] }
noncomputable def body87 : Code := match Tryz.f87.body with | some c => c | none => .skip
noncomputable def fn87 : Fun := { body := body87, ntmps := 9, results := [.tmp 2], types := [24], hint := hint87, keep := .clip }
def E87 : Env := { T := tiOf, hint := hint87 }
def hint88 : Hint := { esc := [7], eqs := [7] }
noncomputable def body88 : Code := match Tryz.f88.body with | some c => c | none => .skip
noncomputable def fn88 : Fun := { body := body88, ntmps := 8, results := [.tmp 2], types := [22], hint := hint88, keep := .keep }
def E88 : Env := { T := tiOf, hint := hint88 }
def hint97 : Hint := { eqs := [12, 46] }
noncomputable def body97 : Code := match Tryz.f97.body with | some c => c | none => .skip
noncomputable def fn97 : Fun := { body := body97, ntmps := 49, results := [.tmp 4], types := [4], hint := hint97, keep := .keep }
def E97 : Env := { T := tiOf, hint := hint97 }
def hint98 : Hint := { reH := [2] }
noncomputable def body98 : Code := match Tryz.f98.body with | some c => c | none => .skip
noncomputable def fn98 : Fun := { body := body98, ntmps := 15, results := [], types := [], hint := hint98, keep := .keep }
def E98 : Env := { T := tiOf, hint := hint98 }
def hint99 : Hint := { eqs := [12] }
noncomputable def body99 : Code := match Tryz.f99.body with | some c => c | none => .skip
noncomputable def fn99 : Fun := { body := body99, ntmps := 33, results := [.tmp 4], types := [4], hint := hint99, keep := .keep }
def E99 : Env := { T := tiOf, hint := hint99 }
def hint100 : Hint := { eqs := [12, 24], dead := [(4, [0, 1, 4, 5, 7, 8, 9, 10, 11, 12, 13, 14, 15, 16, 17, 18, 19])], reH := [4, 6], joins := [4] }
noncomputable def body100 : Code := match Tryz.f100.body with | some c => c | none => .skip
noncomputable def fn100 : Fun := { body := body100, ntmps := 34, results := [], types := [], hint := hint100, keep := .keep }
def E100 : Env := { T := tiOf, hint := hint100 }
def hint101 : Hint := { eqs := [12] }
noncomputable def body101 : Code := match Tryz.f101.body with | some c => c | none => .skip
noncomputable def fn101 : Fun := { body := body101, ntmps := 26, results := [.tmp 4], types := [4], hint := hint101, keep := .keep }
def E101 : Env := { T := tiOf, hint := hint101 }
def hint102 : Hint := { eqs := [10], reH := [2] }
noncomputable def body102 : Code := match Tryz.f102.body with | some c => c | none => .skip
noncomputable def fn102 : Fun := { body := body102, ntmps := 16, results := [], types := [], hint := hint102, keep := .keep }
def E102 : Env := { T := tiOf, hint := hint102 }
def hint103 : Hint := { }
noncomputable def body103 : Code := match Tryz.f103.body with | some c => c | none => .skip
noncomputable def fn103 : Fun := { body := body103, ntmps := 18, results := [.tmp 4], types := [4], hint := hint103, keep := .drop }
def E103 : Env := { T := tiOf, hint := hint103 }
def hint104 : Hint := { }
noncomputable def body104 : Code := match Tryz.f104.body with | some c => c | none => .skip
noncomputable def fn104 : Fun := { body := body104, ntmps := 10, results := [.tmp 4], types := [127], hint := hint104, keep := .drop }
def E104 : Env := { T := tiOf, hint := hint104 }
def hint105 : Hint := { esc := [2, 3, 4, 5], dead := [(5, [0, 8, 9]), (10, [0, 5, 8, 9])], rid := [(5, 10500)], joins := [10] }
noncomputable def body105 : Code := match Tryz.f105.body with | some c => c | none => .skip
noncomputable def fn105 : Fun := { body := body105, ntmps := 39, results := [.cell 2 125, .cell 3 3, .cell 4 32], types := [125, 3, 32], hint := hint105, keep := .drop }
def E105 : Env := { T := tiOf, hint := hint105 }
def ER105 : Env := { T := tiOf, hint := hint105, rnd := true }
noncomputable def rb10500 : Code := subc body105 [1, 1, 0, 1, 0, 1]
noncomputable def L10500 : LoopC := ⟨10500, [10, 11], subc body105 [1, 1, 0, 1, 0, 0], rb10500⟩
def hint112 : Hint := { esc := [5], eqs := [34, 41], dead := [(3, [4, 6, 9, 10, 11, 12, 13, 14, 15, 16]), (7, [8, 9]), (8, [17, 18, 19, 20, 21, 22, 23, 24, 25, 26, 27, 28, 29, 30, 31, 32, 33, 34, 35, 36, 37, 38, 39, 40, 41, 42])], reH := [2, 6], joins := [7] }
noncomputable def body112 : Code := match Tryz.f112.body with | some c => c | none => .skip
noncomputable def fn112 : Fun := { body := body112, ntmps := 44, results := [.tmp 4], types := [127], hint := hint112, keep := .drop }
def E112 : Env := { T := tiOf, hint := hint112 }
def hint113 : Hint := { esc := [1] }
noncomputable def body113 : Code := match Tryz.f113.body with | some c => c | none => .skip
noncomputable def fn113 : Fun := { body := body113, ntmps := 4, results := [.tmp 2], types := [150], hint := hint113, keep := .keep }
def E113 : Env := { T := tiOf, hint := hint113 }
def hint128 : Hint := { dead := [(2, [1, 4, 16]), (6, [7, 8, 9, 10, 11, 12, 13, 14, 15])], joins := [6] }
noncomputable def body128 : Code := match Tryz.f128.body with | some c => c | none => .skip
noncomputable def fn128 : Fun := { body := body128, ntmps := 18, results := [.tmp 4], types := [127], hint := hint128, keep := .drop }
def E128 : Env := { T := tiOf, hint := hint128 }
def hint129 : Hint := { dead := [(1, [4, 5, 6, 7, 8, 9, 10, 11, 12, 13, 14, 15, 16, 17, 18, 19, 20, 21, 22, 23, 24, 25, 26])] }
noncomputable def body129 : Code := match Tryz.f129.body with | some c => c | none => .skip
noncomputable def fn129 : Fun := { body := body129, ntmps := 27, results := [], types := [], hint := hint129, keep := .keep }
def E129 : Env := { T := tiOf, hint := hint129 }
def fnTab : List (Nat × Hint × Keep) := [(4, hint4, .drop), (6, hint6, .drop), (7, hint7, .drop), (9, hint9, .drop), (12, hint12, .drop), (13, hint13, .drop), (14, hint14, .own), (15, hint15, .drop), (16, hint16, .own), (17, hint17, .drop), (18, hint18, .drop), (19, hint19, .drop), (20, hint20, .drop), (21, hint21, .drop), (22, hint22, .drop), (23, hint23, .drop), (24, hint24, .clip), (25, hint25, .drop), (26, hint26, .drop), (27, hint27, .drop), (28, hint28, .keep), (29, hint29, .drop), (30, hint30, .drop), (31, hint31, .drop), (35, hint35, .drop), (36, hint36, .drop), (37, hint37, .drop), (38, hint38, .drop), (45, hint45, .drop), (46, hint46, .drop), (49, hint49, .keep), (51, hint51, .keep), (52, hint52, .clip), (53, hint53, .drop), (54, hint54, .drop), (55, hint55, .drop), (56, hint56, .drop), (57, hint57, .drop), (58, hint58, .keep), (59, hint59, .keep), (60, hint60, .drop), (61, hint61, .drop), (62, hint62, .clip), (63, hint63, .drop), (64, hint64, .drop), (66, hint66, .keep), (75, hint75, .drop), (77, hint77, .keep), (78, hint78, .keep), (79, hint79, .drop), (80, hint80, .drop), (81, hint81, .drop), (82, hint82, .drop), (83, hint83, .drop), (84, hint84, .keep), (85, hint85, .drop), (86, hint86, .drop), (87, hint87, .clip), (88, hint88, .keep), (97, hint97, .keep), (98, hint98, .keep), (99, hint99, .keep), (100, hint100, .keep), (101, hint101, .keep), (102, hint102, .keep), (103, hint103, .drop), (104, hint104, .drop), (105, hint105, .drop), (112, hint112, .drop), (113, hint113, .keep), (128, hint128, .drop), (129, hint129, .keep)]
def rndTab : List (Nat × Hint × Keep) := [(2200, hint22, .keep), (10500, hint105, .keep)]
noncomputable def fnOf (f : FuncId) : Option Fun := match lkN f fnTab with
  | some (h, kp) => match Tryz.checked.prog.funcs[f]? with
    | some F => bif F.name == "runtime.NumGoroutine" then none else funOf F h kp
    | none => none
  | none => none
def relSorted (f : FuncId) (args : List AVal) (H : List HObj) (r : AVal) (H' : List HObj) : Prop :=
  f = 65 ∧ ∃ (q id : Nat) (L : List (ByteArray × Int)), args = [.func 91 [.href q 0]] ∧ H[q]? = some (.arr [.map id]) ∧ H[id]? = some (.map (entL AVal.str (AVal.int .i64) L)) ∧ L.length * 16 ≤ 140737488355328 ∧ (∀ p ∈ L, p.1.size ≤ 9223372036854775807) ∧ r = encL 1 AVal.str bE (isort (L.map (·.1))) ∧ H' = H
def extRel (f : FuncId) (args : List AVal) (H : List HObj) (r : AVal) (H' : List HObj) : Prop :=
  relSorted f args H r H' ∨ (f = 47 ∧ relWrite 78 5 args H r H') ∨ (f = 48 ∧ relLen 78 5 args H r H') ∨ (f = 50 ∧ relString 78 5 args H r H')
noncomputable def G : Prog := { T := tiOf, fns := fnOf, ext := extRel, rnds := fun i => lkN i rndTab }
def Cn (n : Nat) : FuncId → List AVal → List HObj → AVal → List HObj → Prop := fun g args H r H' => CallIn (Run G n g) args H r H'
theorem cnR {n : Nat} {f : FuncId} {args : List AVal} {H H' : List HObj} {r : AVal} (h : Run G n f args H r H') : Cn n f args H r H' := .inr h
theorem cnL {n : Nat} {f : FuncId} {args : List AVal} {H H0 : List HObj} {r : AVal} (h1 : args.all noRefArg = true) (h2 : noRefAll r = true) (h : Run G n f args [] r H0) : Cn n f args H r H := .inl ⟨h1, h2, rfl, _, h⟩
theorem Dq {α β R : Type} {n : Nat} {enc : α → R} {t : Tree R} {x : Option β} {J : β → Option α} (e : β → AVal × List HObj) {f : FuncId} {args : List AVal} (H : List HObj) (hc : ∀ b, x = some b → Run G n f args [] (e b).1 (e b).2)
    (h1 : ∀ b, Dn (Cn n) enc (t.go (e b).1 H) (J b)) (h : t.head = .call f args H := by kernel_rfl) (h2 : args.all noRefArg = true := by kernel_rfl) (h3 : ∀ b, noRefAll (e b).1 = true := by (intro b; kernel_rfl)) : Dn (Cn n) enc t (x.bind J) :=
  Dn.call (fun b => (e b).1) (fun _ => H) h (fun b hb => cnL h2 (h3 b) (hc b hb)) h1
theorem Dqm {α β R : Type} {n : Nat} {enc : α → R} {t : Tree R} {x : Option β} {J : β → Option α} (e : β → AVal × List HObj) {f : FuncId} {args : List AVal} (H : List HObj) (hc : ∀ b, x = some b → Run G n f args [] (e b).1 (e b).2)
    (h1 : ∀ b, Dn (Cn n) enc (t.go (e b).1 H) (J b)) (h : t.head = .call f args H := by kernel_rfl) (h2 : args.all noRefArg = true := by kernel_rfl) (h3 : ∀ b, noRefAll (e b).1 = true := by (intro b; cases b <;> rfl)) : Dn (Cn n) enc t (x.bind J) :=
  Dn.call (fun b => (e b).1) (fun _ => H) h (fun b hb => cnL h2 (h3 b) (hc b hb)) h1
theorem Dp {α β R : Type} {n : Nat} {enc : α → R} {t : Tree R} {x : Option β} {J : β → Option α} (e : β → AVal × List HObj) {f : FuncId} {args : List AVal} {H : List HObj} (hc : ∀ b, x = some b → Run G n f args H (e b).1 (e b).2)
    (h1 : ∀ b, Dn (Cn n) enc (t.go (e b).1 (e b).2) (J b)) (h : t.head = .call f args H := by kernel_rfl) : Dn (Cn n) enc t (x.bind J) :=
  Dn.call (fun b => (e b).1) (fun b => (e b).2) h (fun b hb => cnR (hc b hb)) h1
theorem run_of {n : Nat} {f : FuncId} {fn : Fun} {args : List AVal} {H : List HObj} {r : AVal × List HObj} (hf : fnOf f = some fn) (h : Den (Cn n) (enter { T := tiOf, hint := fn.hint } n fn args H) r) : Run G (n + 1) f args H r.1 r.2 := .inr (.inl ⟨fn, hf, h⟩)
theorem rnd_of {n i id : Nat} {L : LoopC} {ts args : List AVal} {h : Hint} {kp : Keep} {H : List HObj} {r : AVal × List HObj} (hH : H[id]? = some (.loop L ts .ready)) (hi : L.id = i) (hl : args.length = L.params.length) (hr : lkN i rndTab = some (h, kp)) (hd : Den (Cn n) (enterRound { T := tiOf, hint := h, rnd := true } n L kp id ts args H) r) : Run G (n + 1) (rnd0 + i) (.yld id :: args) H r.1 r.2 :=
  .inr (.inr ⟨i, id, args, L, ts, h, kp, rfl, rfl, hH, hi, hl, hr, hd⟩)
theorem sorted_ok {n q id : Nat} {H : List HObj} {L : List (ByteArray × Int)} {b : List ByteArray} (h1 : H[q]? = some (.arr [.map id])) (h2 : H[id]? = some (.map (entL AVal.str (AVal.int .i64) L))) (h : sortedKeys n L = some b) : Run G n 65 [.func 91 [.href q 0]] H (encL 1 AVal.str bE b) H := by
  cases n with
  | zero => cases h
  | succ n =>
    unfold sortedKeys at h
    cases hc : (decide (L.length * 16 ≤ 140737488355328) && L.all (fun p => decide (p.1.size ≤ 9223372036854775807))) with
    | false => rw [hc] at h; cases h
    | true =>
      rw [hc] at h; cases h
      simp only [Bool.and_eq_true, decide_eq_true_eq, List.all_eq_true] at hc
      exact .inl (.inl ⟨rfl, q, id, L, rfl, h1, h2, hc.1, hc.2, rfl, rfl⟩)
theorem bwrite_ok {n id : Nat} {H : List HObj} {b s c : ByteArray} (h1 : H[id]? = some (.bld 78 5 b)) (h : bWrite n b s = some c) : Run G n 47 [.href id 0, .str s] H (.tuple [.int .i64 s.size, .nilIface]) (H.set id (.bld 78 5 c)) := by
  cases n with
  | zero => cases h
  | succ n =>
    unfold bWrite at h
    cases hc : decide (b.size + s.size ≤ 140737488355328) with
    | false => simp only [hc, cond_false] at h; cases h
    | true =>
      simp only [hc, cond_true, Option.some.injEq] at h
      subst h
      exact .inl (.inr (.inl ⟨rfl, id, b, s, rfl, h1, of_decide_eq_true hc, rfl, rfl⟩))
theorem blen_ok {n id : Nat} {H : List HObj} {b : ByteArray} {c : Int} (h1 : H[id]? = some (.bld 78 5 b)) (h : bLen n b = some c) : Run G n 48 [.href id 0] H (.int .i64 c) H := by
  cases n with
  | zero => cases h
  | succ n => cases h; exact .inl (.inr (.inr (.inl ⟨rfl, id, b, rfl, h1, rfl, rfl⟩)))
theorem bstring_ok {n id : Nat} {H : List HObj} {b c : ByteArray} (h1 : H[id]? = some (.bld 78 5 b)) (h : bString n b = some c) : Run G n 50 [.href id 0] H (.str c) H := by
  cases n with
  | zero => cases h
  | succ n =>
    unfold bString at h
    cases hc : decide (1 ≤ b.size) with
    | false => simp only [hc, cond_false] at h; cases h
    | true =>
      simp only [hc, cond_true, Option.some.injEq] at h
      subst h
      exact .inl (.inr (.inr (.inr ⟨rfl, id, b, rfl, h1, of_decide_eq_true hc, rfl, rfl⟩)))

end Go.Proofs.YtkignmhjbjgkoaaGreat
