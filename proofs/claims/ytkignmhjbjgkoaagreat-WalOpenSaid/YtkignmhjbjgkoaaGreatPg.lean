/- PRINTED: the functions of the program, as the machine needs them. -/
import Derived.Test.YtkignmhjbjgkoaaGreatAmTab
import Derived.Test.YtkignmhjbjgkoaaGreatAmX
set_option linter.unusedVariables false
set_option maxRecDepth 100000
set_option maxHeartbeats 0
namespace Go.Proofs.YtkignmhjbjgkoaaGreat
open Go Go.AM
def hint3 : Hint := { }
noncomputable def body3 : Code := match Tryz.f3.body with | some c => c | none => .skip
noncomputable def fn3 : Fun := { body := body3, ntmps := 66, results := [.tmp 4], types := [4], hint := hint3, keep := .drop }
def E3 : Env := { T := tiOf, hint := hint3 }
def hint5 : Hint := { dead := [(5, [0, 2, 7, 8, 9, 10, 11, 12, 13, 14, 15, 16, 17, 18, 19, 20, 21, 22, 23, 24, 25, 26, 27, 28, 29, 30, 31, 32, 33, 34, 35, 36, 37, 38, 39, 40, 41, 42, 43, 44, 45, 46]), (10, [4, 23, 24, 25, 26, 27]), (11, [47, 48, 49, 50, 51, 52, 53, 54, 55, 56, 57, 58, 59, 60, 61]), (15, [5, 47, 48, 49, 50, 51]), (16, [62, 63, 64, 65, 66, 67, 68, 69, 70, 71, 72, 73, 74, 75, 76, 77, 78, 79, 80, 81, 82, 83, 84, 85, 86]), (20, [1, 6, 62, 63, 64, 65, 66])], joins := [10, 15, 20] }
noncomputable def body5 : Code := match Tryz.f5.body with | some c => c | none => .skip
noncomputable def fn5 : Fun := { body := body5, ntmps := 89, results := [.tmp 2], types := [4], hint := hint5, keep := .drop }
def E5 : Env := { T := tiOf, hint := hint5 }
def hint6 : Hint := { eqs := [55] }
noncomputable def body6 : Code := match Tryz.f6.body with | some c => c | none => .skip
noncomputable def fn6 : Fun := { body := body6, ntmps := 90, results := [.tmp 0], types := [4], hint := hint6, keep := .drop }
def E6 : Env := { T := tiOf, hint := hint6 }
def hint7 : Hint := { gh := [(1, [.frz 3])] }
noncomputable def body7 : Code := match Tryz.f7.body with | some c => c | none => .skip
noncomputable def fn7 : Fun := { body := body7, ntmps := 32, results := [.cell 4 31, .tmp 5], types := [31, 32], hint := hint7, keep := .drop }
def E7 : Env := { T := tiOf, hint := hint7 }
def hint8 : Hint := { }
noncomputable def body8 : Code := match Tryz.f8.body with | some c => c | none => .skip
noncomputable def fn8 : Fun := { body := body8, ntmps := 35, results := [.cell 4 31, .tmp 5], types := [31, 32], hint := hint8, keep := .drop }
def E8 : Env := { T := tiOf, hint := hint8 }
def hint9 : Hint := { gh := [(1, [.frz 3]), (6, [.frz 9])] }
noncomputable def body9 : Code := match Tryz.f9.body with | some c => c | none => .skip
noncomputable def fn9 : Fun := { body := body9, ntmps := 54, results := [.cell 4 31, .tmp 5], types := [31, 32], hint := hint9, keep := .drop }
def E9 : Env := { T := tiOf, hint := hint9 }
def hint10 : Hint := { dead := [(12, [0, 5, 6, 7, 10, 11, 12, 13, 14, 15, 16, 17, 20, 21, 22, 23, 24, 25, 26, 27, 28, 29, 30, 31, 32, 33, 34, 35, 36, 37, 43, 44, 45, 46, 47, 48, 49, 50])], joins := [12] }
noncomputable def body10 : Code := match Tryz.f10.body with | some c => c | none => .skip
noncomputable def fn10 : Fun := { body := body10, ntmps := 61, results := [.cell 4 31, .tmp 5], types := [31, 32], hint := hint10, keep := .drop }
def E10 : Env := { T := tiOf, hint := hint10 }
def hint11 : Hint := { }
noncomputable def body11 : Code := match Tryz.f11.body with | some c => c | none => .skip
noncomputable def fn11 : Fun := { body := body11, ntmps := 31, results := [.tmp 4], types := [4], hint := hint11, keep := .drop }
def E11 : Env := { T := tiOf, hint := hint11 }
def hint20 : Hint := { }
noncomputable def body20 : Code := match Tryz.f20.body with | some c => c | none => .skip
noncomputable def fn20 : Fun := { body := body20, ntmps := 23, results := [.tmp 4, .tmp 5], types := [9, 32], hint := hint20, keep := .drop }
def E20 : Env := { T := tiOf, hint := hint20 }
def hint21 : Hint := { }
noncomputable def body21 : Code := match Tryz.f21.body with | some c => c | none => .skip
noncomputable def fn21 : Fun := { body := body21, ntmps := 18, results := [.tmp 2], types := [9], hint := hint21, keep := .drop }
def E21 : Env := { T := tiOf, hint := hint21 }
def hint22 : Hint := { esc := [4, 5], eqs := [15], dead := [(6, [0, 2, 3, 8, 9]), (8, [0, 2, 3, 8, 9])], rid := [(6, 2200)], joins := [8] }
noncomputable def body22 : Code := match Tryz.f22.body with | some c => c | none => .skip
noncomputable def fn22 : Fun := { body := body22, ntmps := 19, results := [.tmp 2, .tmp 3], types := [29, 3], hint := hint22, keep := .drop }
def E22 : Env := { T := tiOf, hint := hint22 }
def ER22 : Env := { T := tiOf, hint := hint22, rnd := true }
noncomputable def rb2200 : Code := subc body22 [1, 1, 1, 0, 1, 0, 1]
noncomputable def L2200 : LoopC := ⟨2200, [10, 11], subc body22 [1, 1, 1, 0, 1, 0, 0], rb2200⟩
def hint23 : Hint := { eqs := [27, 55] }
noncomputable def body23 : Code := match Tryz.f23.body with | some c => c | none => .skip
noncomputable def fn23 : Fun := { body := body23, ntmps := 62, results := [.cell 4 26, .tmp 5], types := [26, 32], hint := hint23, keep := .drop }
def E23 : Env := { T := tiOf, hint := hint23 }
def hint24 : Hint := { }
noncomputable def body24 : Code := match Tryz.f24.body with | some c => c | none => .skip
noncomputable def fn24 : Fun := { body := body24, ntmps := 2, results := [.cell 0 26], types := [26], hint := hint24, keep := .clip }
def E24 : Env := { T := tiOf, hint := hint24 }
def hint25 : Hint := { }
noncomputable def body25 : Code := match Tryz.f25.body with | some c => c | none => .skip
noncomputable def fn25 : Fun := { body := body25, ntmps := 47, results := [.cell 6 26, .tmp 7], types := [26, 32], hint := hint25, keep := .drop }
def E25 : Env := { T := tiOf, hint := hint25 }
def hint26 : Hint := { dead := [(4, [4, 5, 6, 7, 8, 9, 10, 11, 14, 15, 16, 17, 18, 19, 20, 21, 22, 23, 24, 25])] }
noncomputable def body26 : Code := match Tryz.f26.body with | some c => c | none => .skip
noncomputable def fn26 : Fun := { body := body26, ntmps := 26, results := [.tmp 4], types := [4], hint := hint26, keep := .drop }
def E26 : Env := { T := tiOf, hint := hint26 }
def hint27 : Hint := { }
noncomputable def body27 : Code := match Tryz.f27.body with | some c => c | none => .skip
noncomputable def fn27 : Fun := { body := body27, ntmps := 12, results := [.tmp 2], types := [32], hint := hint27, keep := .drop }
def E27 : Env := { T := tiOf, hint := hint27 }
def hint28 : Hint := { dead := [(2, [0, 1, 5, 7, 8, 9, 13, 14, 15, 16, 17, 18, 19, 20, 21, 22, 23, 26, 27])] }
noncomputable def body28 : Code := match Tryz.f28.body with | some c => c | none => .skip
noncomputable def fn28 : Fun := { body := body28, ntmps := 29, results := [.cell 4 26, .tmp 5], types := [26, 32], hint := hint28, keep := .drop }
def E28 : Env := { T := tiOf, hint := hint28 }
def hint29 : Hint := { }
noncomputable def body29 : Code := match Tryz.f29.body with | some c => c | none => .skip
noncomputable def fn29 : Fun := { body := body29, ntmps := 10, results := [.cell 3 26, .tmp 4], types := [26, 32], hint := hint29, keep := .drop }
def E29 : Env := { T := tiOf, hint := hint29 }
def hint30 : Hint := { esc := [26], eqs := [39, 50, 69, 71, 74], dead := [(7, [0, 3, 5, 12, 13, 14, 15, 16, 17, 18, 20, 21, 22, 23, 24, 25, 26, 27, 52]), (12, [8, 9, 31, 32, 33, 34, 35, 36, 37, 38, 39, 40, 41, 42, 43, 44, 45, 46, 47, 48, 49, 50, 51]), (13, [28, 29, 30, 31]), (14, [11, 53, 54, 55, 59, 60, 61, 62, 63, 64, 65, 66, 67, 68, 69, 70, 71, 72, 73, 74, 75, 76]), (18, [4, 7, 56, 57, 58, 59])], reH := [6, 11], joins := [12, 13, 18] }
noncomputable def body30 : Code := match Tryz.f30.body with | some c => c | none => .skip
noncomputable def fn30 : Fun := { body := body30, ntmps := 82, results := [.cell 2 26, .tmp 3], types := [26, 32], hint := hint30, keep := .drop }
def E30 : Env := { T := tiOf, hint := hint30 }
def hint31 : Hint := { }
noncomputable def body31 : Code := match Tryz.f31.body with | some c => c | none => .skip
noncomputable def fn31 : Fun := { body := body31, ntmps := 13, results := [.cell 4 31, .tmp 5], types := [31, 32], hint := hint31, keep := .drop }
def E31 : Env := { T := tiOf, hint := hint31 }
def hint32 : Hint := { }
noncomputable def body32 : Code := match Tryz.f32.body with | some c => c | none => .skip
noncomputable def fn32 : Fun := { body := body32, ntmps := 39, results := [.cell 4 26, .tmp 5], types := [26, 32], hint := hint32, keep := .drop }
def E32 : Env := { T := tiOf, hint := hint32 }
def hint33 : Hint := { }
noncomputable def body33 : Code := match Tryz.f33.body with | some c => c | none => .skip
noncomputable def fn33 : Fun := { body := body33, ntmps := 13, results := [.cell 4 31, .tmp 5], types := [31, 32], hint := hint33, keep := .drop }
def E33 : Env := { T := tiOf, hint := hint33 }
def hint34 : Hint := { esc := [14], eqs := [14, 54], dead := [(5, [0, 3, 7, 8, 9, 11, 12, 13, 14, 15, 21, 22]), (6, [6, 23, 24, 25, 26, 27]), (8, [16, 17, 18, 19, 20, 28, 29]), (9, [23, 24, 25, 26, 27, 30, 31, 32, 33, 34, 35, 36, 37, 38, 39, 40, 41, 42, 43, 44, 45, 46, 47, 48, 49, 50, 51, 52, 53, 54, 55]), (13, [5, 16, 17, 18, 19, 20])], reH := [4, 12], joins := [6, 9, 13], eqr := true }
noncomputable def body34 : Code := match Tryz.f34.body with | some c => c | none => .skip
noncomputable def fn34 : Fun := { body := body34, ntmps := 61, results := [.cell 2 26, .tmp 3], types := [26, 32], hint := hint34, keep := .drop }
def E34 : Env := { T := tiOf, hint := hint34 }
def hint35 : Hint := { }
noncomputable def body35 : Code := match Tryz.f35.body with | some c => c | none => .skip
noncomputable def fn35 : Fun := { body := body35, ntmps := 12, results := [.cell 4 26, .tmp 5], types := [26, 32], hint := hint35, keep := .drop }
def E35 : Env := { T := tiOf, hint := hint35 }
def hint36 : Hint := { }
noncomputable def body36 : Code := match Tryz.f36.body with | some c => c | none => .skip
noncomputable def fn36 : Fun := { body := body36, ntmps := 54, results := [.cell 6 26, .tmp 7], types := [26, 32], hint := hint36, keep := .drop }
def E36 : Env := { T := tiOf, hint := hint36 }
def hint37 : Hint := { }
noncomputable def body37 : Code := match Tryz.f37.body with | some c => c | none => .skip
noncomputable def fn37 : Fun := { body := body37, ntmps := 10, results := [.cell 3 26, .tmp 4], types := [26, 32], hint := hint37, keep := .drop }
def E37 : Env := { T := tiOf, hint := hint37 }
def hint38 : Hint := { }
noncomputable def body38 : Code := match Tryz.f38.body with | some c => c | none => .skip
noncomputable def fn38 : Fun := { body := body38, ntmps := 36, results := [.cell 4 26, .tmp 5], types := [26, 32], hint := hint38, keep := .drop }
def E38 : Env := { T := tiOf, hint := hint38 }
def hint39 : Hint := { }
noncomputable def body39 : Code := match Tryz.f39.body with | some c => c | none => .skip
noncomputable def fn39 : Fun := { body := body39, ntmps := 23, results := [.tmp 4, .tmp 5], types := [9, 32], hint := hint39, keep := .drop }
def E39 : Env := { T := tiOf, hint := hint39 }
def hint40 : Hint := { eqs := [27], dead := [(3, [2, 3, 6, 7, 8, 9, 10, 11, 12, 13, 14, 15, 16, 17, 18, 19, 20, 21, 24, 25, 26, 27, 28, 29, 30]), (8, [0, 9, 10, 11, 12])], joins := [8] }
noncomputable def body40 : Code := match Tryz.f40.body with | some c => c | none => .skip
noncomputable def fn40 : Fun := { body := body40, ntmps := 33, results := [.tmp 2, .tmp 3], types := [29, 3], hint := hint40, keep := .drop }
def E40 : Env := { T := tiOf, hint := hint40 }
def hint41 : Hint := { }
noncomputable def body41 : Code := match Tryz.f41.body with | some c => c | none => .skip
noncomputable def fn41 : Fun := { body := body41, ntmps := 50, results := [.cell 6 26, .tmp 7], types := [26, 32], hint := hint41, keep := .drop }
def E41 : Env := { T := tiOf, hint := hint41 }
def hint42 : Hint := { }
noncomputable def body42 : Code := match Tryz.f42.body with | some c => c | none => .skip
noncomputable def fn42 : Fun := { body := body42, ntmps := 35, results := [.cell 4 26, .tmp 5], types := [26, 32], hint := hint42, keep := .drop }
def E42 : Env := { T := tiOf, hint := hint42 }
def hint43 : Hint := { dead := [(4, [0, 1, 4, 8, 9, 10, 11, 12, 13, 14, 15, 16, 17, 18, 19, 20, 21, 22, 23, 24, 25, 26, 27, 28, 29, 30, 31, 32, 33, 34, 35, 36, 37, 38, 39, 40, 41, 42, 43, 44, 45, 46, 47, 48, 49, 50, 51, 52, 53, 54, 55, 56, 57]), (8, [5, 40, 41, 42, 43, 44]), (9, [58, 59, 60, 61, 62, 63, 64, 65, 66, 67, 68, 69, 70, 71, 72, 73, 74, 75]), (13, [6, 58, 59, 60, 61, 62]), (14, [76, 77, 78, 79, 80, 81, 82, 83, 84, 85, 86, 87, 88, 89, 90, 91, 92, 93])], joins := [8, 13] }
noncomputable def body43 : Code := match Tryz.f43.body with | some c => c | none => .skip
noncomputable def fn43 : Fun := { body := body43, ntmps := 94, results := [.tmp 4], types := [4], hint := hint43, keep := .drop }
def E43 : Env := { T := tiOf, hint := hint43 }
def hint44 : Hint := { dead := [(4, [4, 6, 7, 8, 9, 10, 11, 12, 13, 14, 15, 16, 17, 18, 19, 20, 21, 22, 23, 24, 25])] }
noncomputable def body44 : Code := match Tryz.f44.body with | some c => c | none => .skip
noncomputable def fn44 : Fun := { body := body44, ntmps := 26, results := [.tmp 4], types := [4], hint := hint44, keep := .drop }
def E44 : Env := { T := tiOf, hint := hint44 }
def hint55 : Hint := { eqs := [20] }
noncomputable def body55 : Code := match Tryz.f55.body with | some c => c | none => .skip
noncomputable def fn55 : Fun := { body := body55, ntmps := 26, results := [.tmp 4, .tmp 5], types := [3, 32], hint := hint55, keep := .drop }
def E55 : Env := { T := tiOf, hint := hint55 }
def hint56 : Hint := { eqs := [16], nils := [81] }
noncomputable def body56 : Code := match Tryz.f56.body with | some c => c | none => .skip
noncomputable def fn56 : Fun := { body := body56, ntmps := 18, results := [.tmp 4, .tmp 5], types := [9, 32], hint := hint56, keep := .drop }
def E56 : Env := { T := tiOf, hint := hint56 }
def hint57 : Hint := { }
noncomputable def body57 : Code := match Tryz.f57.body with | some c => c | none => .skip
noncomputable def fn57 : Fun := { body := body57, ntmps := 8, results := [.tmp 2], types := [9], hint := hint57, keep := .drop }
def E57 : Env := { T := tiOf, hint := hint57 }
def hint58 : Hint := { esc := [1] }
noncomputable def body58 : Code := match Tryz.f58.body with | some c => c | none => .skip
noncomputable def fn58 : Fun := { body := body58, ntmps := 4, results := [.tmp 2], types := [92], hint := hint58, keep := .keep }
def E58 : Env := { T := tiOf, hint := hint58 }
def hint59 : Hint := { dead := [(4, [0, 3, 5, 12, 13, 14, 15, 16, 17, 18, 19, 20, 21, 22, 23, 24, 25, 26, 28, 32, 33, 34, 35, 36, 37, 38, 39, 40, 41, 42, 43, 44, 45, 46, 47, 48, 49, 50, 51, 53]), (9, [29, 30, 31, 32]), (13, [1, 7, 9, 10, 11, 54, 55, 56, 57, 58, 59, 60, 62, 66, 67, 68, 69, 70, 71, 72, 73, 74, 75, 76, 77, 78, 79, 80, 81, 82, 83, 84, 86, 87, 88, 89, 90, 91]), (20, [63, 64, 65, 66])], joins := [9, 20] }
noncomputable def body59 : Code := match Tryz.f59.body with | some c => c | none => .skip
noncomputable def fn59 : Fun := { body := body59, ntmps := 93, results := [.cell 2 97, .tmp 3], types := [97, 4], hint := hint59, keep := .keep }
def E59 : Env := { T := tiOf, hint := hint59 }
def hint60 : Hint := { dead := [(4, [2, 4, 5, 6, 7, 8, 9, 10, 11, 12, 13, 14, 36, 37, 38, 39, 40, 41, 42, 43, 44, 45, 46, 47, 48, 49, 50, 51, 52, 53, 54, 55, 56, 57, 58]), (8, [3, 17, 18, 19, 20, 21, 22, 23, 24, 25, 26, 27, 28, 29, 30, 31, 32, 33, 34, 35])], joins := [8] }
noncomputable def body60 : Code := match Tryz.f60.body with | some c => c | none => .skip
noncomputable def fn60 : Fun := { body := body60, ntmps := 59, results := [.tmp 2], types := [4], hint := hint60, keep := .drop }
def E60 : Env := { T := tiOf, hint := hint60 }
def hint61 : Hint := { eqs := [10] }
noncomputable def body61 : Code := match Tryz.f61.body with | some c => c | none => .skip
noncomputable def fn61 : Fun := { body := body61, ntmps := 13, results := [.cell 4 26], types := [26], hint := hint61, keep := .drop }
def E61 : Env := { T := tiOf, hint := hint61 }
def hint62 : Hint := { eqs := [8] }
noncomputable def body62 : Code := match Tryz.f62.body with | some c => c | none => .skip
noncomputable def fn62 : Fun := { body := body62, ntmps := 9, results := [.tmp 2], types := [22], hint := hint62, keep := .clip }
def E62 : Env := { T := tiOf, hint := hint62 }
def hint63 : Hint := { dead := [(5, [0, 1, 2, 5, 6, 7, 8, 10, 11, 12, 13, 14, 15, 16])], joins := [5] }
noncomputable def body63 : Code := match Tryz.f63.body with | some c => c | none => .skip
noncomputable def fn63 : Fun := { body := body63, ntmps := 18, results := [.cell 4 26, .tmp 5], types := [26, 32], hint := hint63, keep := .drop }
def E63 : Env := { T := tiOf, hint := hint63 }
def hint64 : Hint := { reH := [3], eqr := true }
noncomputable def body64 : Code := match Tryz.f64.body with | some c => c | none => .skip
noncomputable def fn64 : Fun := { body := body64, ntmps := 17, results := [.cell 6 26], types := [26], hint := hint64, keep := .drop }
def E64 : Env := { T := tiOf, hint := hint64 }
def hint66 : Hint := { esc := [1] }
noncomputable def body66 : Code := match Tryz.f66.body with | some c => c | none => .skip
noncomputable def fn66 : Fun := { body := body66, ntmps := 4, results := [.tmp 2], types := [108], hint := hint66, keep := .keep }
def E66 : Env := { T := tiOf, hint := hint66 }
def hint67 : Hint := { }
noncomputable def body67 : Code := match Tryz.f67.body with | some c => c | none => .skip
noncomputable def fn67 : Fun := { body := body67, ntmps := 23, results := [.tmp 4, .tmp 5], types := [3, 32], hint := hint67, keep := .drop }
def E67 : Env := { T := tiOf, hint := hint67 }
def hint68 : Hint := { dead := [(2, [2, 4, 5, 6, 7, 8, 9, 10, 11, 12, 13, 14, 15, 16, 17, 18, 19, 20, 21, 22, 23, 24, 25, 26, 27, 28, 29, 30, 31, 32, 33, 34, 35, 36, 37, 38, 39, 40, 41, 42, 43, 44, 45, 46, 47, 48]), (7, [3, 5, 6, 7, 8])], joins := [7] }
noncomputable def body68 : Code := match Tryz.f68.body with | some c => c | none => .skip
noncomputable def fn68 : Fun := { body := body68, ntmps := 57, results := [.tmp 2], types := [4], hint := hint68, keep := .drop }
def E68 : Env := { T := tiOf, hint := hint68 }
def hint69 : Hint := { eqs := [16, 19, 27, 30], dead := [(7, [0, 1, 3, 5, 7, 8, 9, 10, 12, 13, 14, 15, 16, 17, 18, 19, 20, 21, 22, 23, 24, 25, 26, 27, 28, 29, 30, 31])], joins := [7] }
noncomputable def body69 : Code := match Tryz.f69.body with | some c => c | none => .skip
noncomputable def fn69 : Fun := { body := body69, ntmps := 37, results := [.cell 4 26, .tmp 5], types := [26, 32], hint := hint69, keep := .drop }
def E69 : Env := { T := tiOf, hint := hint69 }
def hint70 : Hint := { dead := [(4, [0, 2, 9, 10, 11, 12, 13, 14, 15, 16, 17, 18, 19, 20, 21, 22, 23, 24, 25, 26, 27, 28, 29, 30, 31, 32, 33, 34, 35, 36, 37, 38, 39, 40, 41, 42, 43, 44, 45, 46, 47, 48, 49, 50, 51, 52, 53, 54, 55, 56, 57, 58, 59, 60, 61, 62, 63, 64, 65, 66, 67, 68, 69, 70, 71, 72]), (8, [3, 33, 34, 35, 36, 37]), (9, [78, 79]), (10, [5, 6, 118, 119, 120]), (15, [73, 74, 75, 76, 77, 80, 81, 82, 83, 84, 85, 86, 87, 88, 89, 90, 91, 92, 93, 94, 95, 96, 97, 98, 99, 100, 101, 102, 103, 104, 105, 106, 107, 108, 109, 110, 111, 112, 113, 114, 115, 116, 117, 118, 119, 120, 121, 122, 123, 124, 125, 126, 127, 128, 129, 130, 131]), (19, [4, 73, 74, 75, 76, 77])], joins := [8, 10, 19] }
noncomputable def body70 : Code := match Tryz.f70.body with | some c => c | none => .skip
noncomputable def fn70 : Fun := { body := body70, ntmps := 145, results := [.tmp 2], types := [32], hint := hint70, keep := .drop }
def E70 : Env := { T := tiOf, hint := hint70 }
def hint71 : Hint := { }
noncomputable def body71 : Code := match Tryz.f71.body with | some c => c | none => .skip
noncomputable def fn71 : Fun := { body := body71, ntmps := 17, results := [.tmp 2], types := [23], hint := hint71, keep := .drop }
def E71 : Env := { T := tiOf, hint := hint71 }
def hint72 : Hint := { dead := [(6, [0, 1, 2, 5, 6, 7, 8, 10, 11, 12, 13, 14, 15, 16, 17, 18, 19])], joins := [6] }
noncomputable def body72 : Code := match Tryz.f72.body with | some c => c | none => .skip
noncomputable def fn72 : Fun := { body := body72, ntmps := 21, results := [.cell 4 26, .tmp 5], types := [26, 32], hint := hint72, keep := .keep }
def E72 : Env := { T := tiOf, hint := hint72 }
def hint73 : Hint := { }
noncomputable def body73 : Code := match Tryz.f73.body with | some c => c | none => .skip
noncomputable def fn73 : Fun := { body := body73, ntmps := 48, results := [.tmp 2, .tmp 3], types := [9, 3], hint := hint73, keep := .drop }
def E73 : Env := { T := tiOf, hint := hint73 }
def hint74 : Hint := { esc := [13], eqs := [13], reH := [3, 4], eqr := true }
noncomputable def body74 : Code := match Tryz.f74.body with | some c => c | none => .skip
noncomputable def fn74 : Fun := { body := body74, ntmps := 25, results := [.cell 6 26, .tmp 7], types := [26, 32], hint := hint74, keep := .drop }
def E74 : Env := { T := tiOf, hint := hint74 }
def hint77 : Hint := { esc := [11], eqs := [59], dead := [(3, [0, 3, 5, 6, 7, 8, 9, 10, 11, 12, 13, 17, 18, 19, 20, 21, 22, 23, 24, 25, 26, 27, 28, 29, 30, 31, 32, 33, 34, 35, 36, 37, 38, 39, 40, 42, 43, 44, 45, 46, 47, 48, 49, 50, 51, 52, 53, 54, 55, 56, 57, 58, 59, 60, 62, 63, 64, 65, 66, 67, 68, 69, 70, 71, 72, 73]), (12, [1, 14, 15, 16, 17])], reH := [2, 10, 11], joins := [12] }
noncomputable def body77 : Code := match Tryz.f77.body with | some c => c | none => .skip
noncomputable def fn77 : Fun := { body := body77, ntmps := 75, results := [.cell 2 97, .tmp 3], types := [97, 4], hint := hint77, keep := .keep }
def E77 : Env := { T := tiOf, hint := hint77 }
def hint79 : Hint := { }
noncomputable def body79 : Code := match Tryz.f79.body with | some c => c | none => .skip
noncomputable def fn79 : Fun := { body := body79, ntmps := 15, results := [.cell 2 121, .tmp 3], types := [121, 4], hint := hint79, keep := .drop }
def E79 : Env := { T := tiOf, hint := hint79 }
def hint81 : Hint := { eqs := [13, 20], dead := [(1, [4, 5, 6, 7, 8, 9, 10, 11, 12, 13, 14, 15]), (4, [5, 6])], joins := [4] }
noncomputable def body81 : Code := match Tryz.f81.body with | some c => c | none => .skip
noncomputable def fn81 : Fun := { body := body81, ntmps := 21, results := [.tmp 4], types := [76], hint := hint81, keep := .drop }
def E81 : Env := { T := tiOf, hint := hint81 }
def hint82 : Hint := { eqs := [14, 15] }
noncomputable def body82 : Code := match Tryz.f82.body with | some c => c | none => .skip
noncomputable def fn82 : Fun := { body := body82, ntmps := 16, results := [.tmp 2], types := [9], hint := hint82, keep := .drop }
def E82 : Env := { T := tiOf, hint := hint82 }
def hint83 : Hint := { }
noncomputable def body83 : Code := match Tryz.f83.body with | some c => c | none => .skip
noncomputable def fn83 : Fun := { body := body83, ntmps := 5, results := [.tmp 2], types := [127], hint := hint83, keep := .drop }
def E83 : Env := { T := tiOf, hint := hint83 }
def hint84 : Hint := { dead := [(1, [4, 5, 6, 7, 8, 9, 10, 11, 12, 13, 14, 15, 16, 17, 18, 19, 20, 21, 22, 23, 24, 25, 26, 27, 28, 29, 30, 31, 32, 33, 34, 35, 36, 37, 38, 39, 40, 41, 42, 43, 44, 45, 46, 47, 48, 49, 50, 51, 52, 53, 54, 55, 56, 57])] }
noncomputable def body84 : Code := match Tryz.f84.body with | some c => c | none => .skip
noncomputable def fn84 : Fun := { body := body84, ntmps := 58, results := [], types := [], hint := hint84, keep := .keep }
def E84 : Env := { T := tiOf, hint := hint84 }
def hint85 : Hint := { }
noncomputable def body85 : Code := match Tryz.f85.body with | some c => c | none => .skip
noncomputable def fn85 : Fun := { body := body85, ntmps := 22, results := [.tmp 2, .tmp 3, .tmp 4], types := [3, 3, 32], hint := hint85, keep := .drop }
def E85 : Env := { T := tiOf, hint := hint85 }
def hint86 : Hint := { }
noncomputable def body86 : Code := match Tryz.f86.body with | some c => c | none => .skip
noncomputable def fn86 : Fun := { body := body86, ntmps := 22, results := [.tmp 2, .tmp 3], types := [9, 32], hint := hint86, keep := .drop }
def E86 : Env := { T := tiOf, hint := hint86 }
def hint87 : Hint := { eqs := [8] }
noncomputable def body87 : Code := match Tryz.f87.body with | some c => c | none => .skip
noncomputable def fn87 : Fun := { body := body87, ntmps := 9, results := [.tmp 2], types := [24], hint := hint87, keep := .clip }
def E87 : Env := { T := tiOf, hint := hint87 }
def hint88 : Hint := { esc := [7], eqs := [7] }
noncomputable def body88 : Code := match Tryz.f88.body with | some c => c | none => .skip
noncomputable def fn88 : Fun := { body := body88, ntmps := 8, results := [.tmp 2], types := [22], hint := hint88, keep := .keep }
def E88 : Env := { T := tiOf, hint := hint88 }
def hint92 : Hint := { dead := [(2, [4, 6, 7, 8, 9, 10, 11, 12, 13, 14, 15, 16, 17, 18])] }
noncomputable def body92 : Code := match Tryz.f92.body with | some c => c | none => .skip
noncomputable def fn92 : Fun := { body := body92, ntmps := 20, results := [.tmp 4], types := [3], hint := hint92, keep := .drop }
def E92 : Env := { T := tiOf, hint := hint92 }
def hint93 : Hint := { dead := [(3, [6, 7, 10, 11, 12, 13, 14, 15, 16, 17, 18, 19, 20, 21, 22, 23, 24, 25, 26, 27, 28]), (6, [1, 2, 9, 10, 11, 12, 13, 14, 15, 16])], joins := [6] }
noncomputable def body93 : Code := match Tryz.f93.body with | some c => c | none => .skip
noncomputable def fn93 : Fun := { body := body93, ntmps := 31, results := [.tmp 6, .tmp 7], types := [23, 4], hint := hint93, keep := .drop }
def E93 : Env := { T := tiOf, hint := hint93 }
def hint94 : Hint := { }
noncomputable def body94 : Code := match Tryz.f94.body with | some c => c | none => .skip
noncomputable def fn94 : Fun := { body := body94, ntmps := 23, results := [.tmp 2, .tmp 3, .tmp 4], types := [3, 3, 32], hint := hint94, keep := .drop }
def E94 : Env := { T := tiOf, hint := hint94 }
def hint95 : Hint := { }
noncomputable def body95 : Code := match Tryz.f95.body with | some c => c | none => .skip
noncomputable def fn95 : Fun := { body := body95, ntmps := 18, results := [.tmp 2, .tmp 3], types := [9, 32], hint := hint95, keep := .drop }
def E95 : Env := { T := tiOf, hint := hint95 }
def hint97 : Hint := { eqs := [12, 46] }
noncomputable def body97 : Code := match Tryz.f97.body with | some c => c | none => .skip
noncomputable def fn97 : Fun := { body := body97, ntmps := 49, results := [.tmp 4], types := [4], hint := hint97, keep := .keep }
def E97 : Env := { T := tiOf, hint := hint97 }
def hint98 : Hint := { reH := [2] }
noncomputable def body98 : Code := match Tryz.f98.body with | some c => c | none => .skip
noncomputable def fn98 : Fun := { body := body98, ntmps := 15, results := [], types := [], hint := hint98, keep := .keep }
def E98 : Env := { T := tiOf, hint := hint98 }
def hint99 : Hint := { eqs := [12] }
noncomputable def body99 : Code := match Tryz.f99.body with | some c => c | none => .skip
noncomputable def fn99 : Fun := { body := body99, ntmps := 33, results := [.tmp 4], types := [4], hint := hint99, keep := .keep }
def E99 : Env := { T := tiOf, hint := hint99 }
def hint100 : Hint := { eqs := [12, 24], dead := [(4, [0, 1, 4, 5, 7, 8, 9, 10, 11, 12, 13, 14, 15, 16, 17, 18, 19])], reH := [4, 6], joins := [4] }
noncomputable def body100 : Code := match Tryz.f100.body with | some c => c | none => .skip
noncomputable def fn100 : Fun := { body := body100, ntmps := 34, results := [], types := [], hint := hint100, keep := .keep }
def E100 : Env := { T := tiOf, hint := hint100 }
def hint101 : Hint := { eqs := [12] }
noncomputable def body101 : Code := match Tryz.f101.body with | some c => c | none => .skip
noncomputable def fn101 : Fun := { body := body101, ntmps := 26, results := [.tmp 4], types := [4], hint := hint101, keep := .keep }
def E101 : Env := { T := tiOf, hint := hint101 }
def hint102 : Hint := { eqs := [10], reH := [2] }
noncomputable def body102 : Code := match Tryz.f102.body with | some c => c | none => .skip
noncomputable def fn102 : Fun := { body := body102, ntmps := 16, results := [], types := [], hint := hint102, keep := .keep }
def E102 : Env := { T := tiOf, hint := hint102 }
def hint104 : Hint := { }
noncomputable def body104 : Code := match Tryz.f104.body with | some c => c | none => .skip
noncomputable def fn104 : Fun := { body := body104, ntmps := 10, results := [.tmp 4], types := [127], hint := hint104, keep := .drop }
def E104 : Env := { T := tiOf, hint := hint104 }
def hint105 : Hint := { esc := [2, 3, 4, 5], dead := [(5, [0, 8, 9]), (10, [0, 5, 8, 9])], rid := [(5, 10500)], joins := [10] }
noncomputable def body105 : Code := match Tryz.f105.body with | some c => c | none => .skip
noncomputable def fn105 : Fun := { body := body105, ntmps := 39, results := [.cell 2 125, .cell 3 3, .cell 4 32], types := [125, 3, 32], hint := hint105, keep := .drop }
def E105 : Env := { T := tiOf, hint := hint105 }
def ER105 : Env := { T := tiOf, hint := hint105, rnd := true }
noncomputable def rb10500 : Code := subc body105 [1, 1, 0, 1, 0, 1]
noncomputable def L10500 : LoopC := ⟨10500, [10, 11], subc body105 [1, 1, 0, 1, 0, 0], rb10500⟩
def hint109 : Hint := { dead := [(5, [1, 6, 7, 13, 14, 15, 16, 17, 18, 19, 24, 25]), (6, [20, 21, 22, 23, 26, 27, 28, 29, 30, 31, 32, 33, 34, 35, 36]), (8, [10, 20, 21, 22, 23]), (9, [2, 8, 9, 37, 38, 39, 40, 41, 42, 43, 44, 45, 46, 47, 48, 49, 50, 51, 52, 53, 54, 55, 56, 57, 58, 59, 60, 61, 62, 63]), (10, [1, 2, 6, 7, 13, 14, 15, 16, 17, 18, 19])], joins := [6, 8, 9, 10] }
noncomputable def body109 : Code := match Tryz.f109.body with | some c => c | none => .skip
noncomputable def fn109 : Fun := { body := body109, ntmps := 120, results := [.tmp 6, .tmp 7], types := [23, 4], hint := hint109, keep := .drop }
def E109 : Env := { T := tiOf, hint := hint109 }
def hint110 : Hint := { dead := [(4, [2, 3, 4, 7, 8, 9, 10, 11, 12, 13, 14, 15, 16, 17, 18, 19, 20, 21, 22, 23, 24, 25, 26, 27, 28, 29, 30, 31, 32])] }
noncomputable def body110 : Code := match Tryz.f110.body with | some c => c | none => .skip
noncomputable def fn110 : Fun := { body := body110, ntmps := 46, results := [.tmp 2, .tmp 3, .tmp 4], types := [3, 3, 32], hint := hint110, keep := .drop }
def E110 : Env := { T := tiOf, hint := hint110 }
def hint111 : Hint := { eqs := [18, 19] }
noncomputable def body111 : Code := match Tryz.f111.body with | some c => c | none => .skip
noncomputable def fn111 : Fun := { body := body111, ntmps := 21, results := [.tmp 2], types := [9], hint := hint111, keep := .drop }
def E111 : Env := { T := tiOf, hint := hint111 }
def hint112 : Hint := { esc := [5], eqs := [34, 41], dead := [(3, [4, 6, 9, 10, 11, 12, 13, 14, 15, 16]), (7, [8, 9]), (8, [17, 18, 19, 20, 21, 22, 23, 24, 25, 26, 27, 28, 29, 30, 31, 32, 33, 34, 35, 36, 37, 38, 39, 40, 41, 42])], reH := [2, 6], joins := [7] }
noncomputable def body112 : Code := match Tryz.f112.body with | some c => c | none => .skip
noncomputable def fn112 : Fun := { body := body112, ntmps := 44, results := [.tmp 4], types := [127], hint := hint112, keep := .drop }
def E112 : Env := { T := tiOf, hint := hint112 }
def hint113 : Hint := { esc := [1] }
noncomputable def body113 : Code := match Tryz.f113.body with | some c => c | none => .skip
noncomputable def fn113 : Fun := { body := body113, ntmps := 4, results := [.tmp 2], types := [150], hint := hint113, keep := .keep }
def E113 : Env := { T := tiOf, hint := hint113 }
def hint125 : Hint := { eqs := [30, 37, 43], dead := [(4, [1, 4, 8, 13, 14, 31, 32, 33, 34, 35, 36, 37]), (9, [9, 10, 11, 12, 15, 16, 17, 18, 19, 20, 21, 22, 23, 24, 25, 26, 27, 28, 29, 30]), (10, [0, 7, 9, 10, 11, 12])], joins := [9, 10] }
noncomputable def body125 : Code := match Tryz.f125.body with | some c => c | none => .skip
noncomputable def fn125 : Fun := { body := body125, ntmps := 45, results := [.tmp 4], types := [23], hint := hint125, keep := .drop }
def E125 : Env := { T := tiOf, hint := hint125 }
def hint126 : Hint := { eqs := [27], dead := [(3, [4, 7, 12, 13]), (4, [8, 9, 10, 11, 14, 15, 16, 17, 18, 19, 20, 21, 22, 23, 24, 25, 26, 27])], joins := [4] }
noncomputable def body126 : Code := match Tryz.f126.body with | some c => c | none => .skip
noncomputable def fn126 : Fun := { body := body126, ntmps := 29, results := [.tmp 4], types := [23], hint := hint126, keep := .drop }
def E126 : Env := { T := tiOf, hint := hint126 }
def hint127 : Hint := { }
noncomputable def body127 : Code := match Tryz.f127.body with | some c => c | none => .skip
noncomputable def fn127 : Fun := { body := body127, ntmps := 6, results := [.tmp 2], types := [127], hint := hint127, keep := .drop }
def E127 : Env := { T := tiOf, hint := hint127 }
def hint128 : Hint := { dead := [(2, [1, 4, 16]), (6, [7, 8, 9, 10, 11, 12, 13, 14, 15])], joins := [6] }
noncomputable def body128 : Code := match Tryz.f128.body with | some c => c | none => .skip
noncomputable def fn128 : Fun := { body := body128, ntmps := 18, results := [.tmp 4], types := [127], hint := hint128, keep := .drop }
def E128 : Env := { T := tiOf, hint := hint128 }
def hint129 : Hint := { dead := [(1, [4, 5, 6, 7, 8, 9, 10, 11, 12, 13, 14, 15, 16, 17, 18, 19, 20, 21, 22, 23, 24, 25, 26])] }
noncomputable def body129 : Code := match Tryz.f129.body with | some c => c | none => .skip
noncomputable def fn129 : Fun := { body := body129, ntmps := 27, results := [], types := [], hint := hint129, keep := .keep }
def E129 : Env := { T := tiOf, hint := hint129 }
def hint136 : Hint := { dead := [(2, [4, 6, 7, 8, 9, 10, 11, 12, 13, 14, 15, 16, 17, 18])] }
noncomputable def body136 : Code := match Tryz.f136.body with | some c => c | none => .skip
noncomputable def fn136 : Fun := { body := body136, ntmps := 20, results := [.tmp 4], types := [127], hint := hint136, keep := .drop }
def E136 : Env := { T := tiOf, hint := hint136 }
def hint138 : Hint := { dead := [(2, [2, 6, 7]), (3, [4, 5, 8, 9, 10, 11, 12, 13, 14, 15])], joins := [3] }
noncomputable def body138 : Code := match Tryz.f138.body with | some c => c | none => .skip
noncomputable def fn138 : Fun := { body := body138, ntmps := 17, results := [.tmp 2], types := [127], hint := hint138, keep := .drop }
def E138 : Env := { T := tiOf, hint := hint138 }
def fnTab : List (Nat × Hint × Keep) := [(3, hint3, .drop), (5, hint5, .drop), (6, hint6, .drop), (7, hint7, .drop), (8, hint8, .drop), (9, hint9, .drop), (10, hint10, .drop), (11, hint11, .drop), (20, hint20, .drop), (21, hint21, .drop), (22, hint22, .drop), (23, hint23, .drop), (24, hint24, .clip), (25, hint25, .drop), (26, hint26, .drop), (27, hint27, .drop), (28, hint28, .drop), (29, hint29, .drop), (30, hint30, .drop), (31, hint31, .drop), (32, hint32, .drop), (33, hint33, .drop), (34, hint34, .drop), (35, hint35, .drop), (36, hint36, .drop), (37, hint37, .drop), (38, hint38, .drop), (39, hint39, .drop), (40, hint40, .drop), (41, hint41, .drop), (42, hint42, .drop), (43, hint43, .drop), (44, hint44, .drop), (55, hint55, .drop), (56, hint56, .drop), (57, hint57, .drop), (58, hint58, .keep), (59, hint59, .keep), (60, hint60, .drop), (61, hint61, .drop), (62, hint62, .clip), (63, hint63, .drop), (64, hint64, .drop), (66, hint66, .keep), (67, hint67, .drop), (68, hint68, .drop), (69, hint69, .drop), (70, hint70, .drop), (71, hint71, .drop), (72, hint72, .keep), (73, hint73, .drop), (74, hint74, .drop), (77, hint77, .keep), (79, hint79, .drop), (81, hint81, .drop), (82, hint82, .drop), (83, hint83, .drop), (84, hint84, .keep), (85, hint85, .drop), (86, hint86, .drop), (87, hint87, .clip), (88, hint88, .keep), (92, hint92, .drop), (93, hint93, .drop), (94, hint94, .drop), (95, hint95, .drop), (97, hint97, .keep), (98, hint98, .keep), (99, hint99, .keep), (100, hint100, .keep), (101, hint101, .keep), (102, hint102, .keep), (104, hint104, .drop), (105, hint105, .drop), (109, hint109, .drop), (110, hint110, .drop), (111, hint111, .drop), (112, hint112, .drop), (113, hint113, .keep), (125, hint125, .drop), (126, hint126, .drop), (127, hint127, .drop), (128, hint128, .drop), (129, hint129, .keep), (136, hint136, .drop), (138, hint138, .drop)]
def rndTab : List (Nat × Hint × Keep) := [(2200, hint22, .keep), (10500, hint105, .keep)]
noncomputable def fnOf (f : FuncId) : Option Fun := match lkN f fnTab with
  | some (h, kp) => match Tryz.checked.prog.funcs[f]? with
    | some F => bif F.name == "runtime.NumGoroutine" then none else funOf F h kp
    | none => none
  | none => none
def extRel (f : FuncId) (args : List AVal) (H : List HObj) (r : AVal) (H' : List HObj) : Prop :=
  f = 65 ∧ ∃ (q id : Nat) (L : List (ByteArray × Int)), args = [.func 91 [.href q 0]] ∧ H[q]? = some (.arr [.map id]) ∧ H[id]? = some (.map (entL AVal.str (AVal.int .i64) L)) ∧ L.length * 16 ≤ 140737488355328 ∧ (∀ p ∈ L, p.1.size ≤ 9223372036854775807) ∧ r = encL 1 AVal.str bE (isort (L.map (·.1))) ∧ H' = H
noncomputable def G : Prog := { T := tiOf, fns := fnOf, ext := extRel, rnds := fun i => lkN i rndTab }
def Cn (n : Nat) : FuncId → List AVal → List HObj → AVal → List HObj → Prop := fun g args H r H' => CallIn (Run G n g) args H r H'
theorem cnR {n : Nat} {f : FuncId} {args : List AVal} {H H' : List HObj} {r : AVal} (h : Run G n f args H r H') : Cn n f args H r H' := .inr h
theorem cnL {n : Nat} {f : FuncId} {args : List AVal} {H H0 : List HObj} {r : AVal} (h1 : args.all noRefArg = true) (h2 : noRefAll r = true) (h : Run G n f args [] r H0) : Cn n f args H r H := .inl ⟨h1, h2, rfl, _, h⟩
theorem run_of {n : Nat} {f : FuncId} {fn : Fun} {args : List AVal} {H : List HObj} {r : AVal × List HObj} (hf : fnOf f = some fn) (h : Den (Cn n) (enter { T := tiOf, hint := fn.hint } n fn args H) r) : Run G (n + 1) f args H r.1 r.2 := .inr (.inl ⟨fn, hf, h⟩)
theorem rnd_of {n i id : Nat} {L : LoopC} {ts args : List AVal} {h : Hint} {kp : Keep} {H : List HObj} {r : AVal × List HObj} (hH : H[id]? = some (.loop L ts .ready)) (hi : L.id = i) (hl : args.length = L.params.length) (hr : lkN i rndTab = some (h, kp)) (hd : Den (Cn n) (enterRound { T := tiOf, hint := h, rnd := true } n L kp id ts args H) r) : Run G (n + 1) (rnd0 + i) (.yld id :: args) H r.1 r.2 :=
  .inr (.inr ⟨i, id, args, L, ts, h, kp, rfl, rfl, hH, hi, hl, hr, hd⟩)
theorem sorted_ok {n q id : Nat} {H : List HObj} {L : List (ByteArray × Int)} {b : List ByteArray} (h1 : H[q]? = some (.arr [.map id])) (h2 : H[id]? = some (.map (entL AVal.str (AVal.int .i64) L))) (h : sortedKeys n L = some b) : Run G n 65 [.func 91 [.href q 0]] H (encL 1 AVal.str bE b) H := by
  cases n with
  | zero => cases h
  | succ n =>
    unfold sortedKeys at h
    cases hc : (decide (L.length * 16 ≤ 140737488355328) && L.all (fun p => decide (p.1.size ≤ 9223372036854775807))) with
    | false => rw [hc] at h; cases h
    | true =>
      rw [hc] at h; cases h
      simp only [Bool.and_eq_true, decide_eq_true_eq, List.all_eq_true] at hc
      exact .inl ⟨rfl, q, id, L, rfl, h1, h2, hc.1, hc.2, rfl, rfl⟩

end Go.Proofs.YtkignmhjbjgkoaaGreat
