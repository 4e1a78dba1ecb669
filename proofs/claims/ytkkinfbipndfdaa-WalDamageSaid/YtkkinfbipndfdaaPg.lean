/- PRINTED: the functions of the program, as the machine needs them. -/
import Derived.Test.YtkkinfbipndfdaaAmTab
import Derived.Test.YtkkinfbipndfdaaAmX
set_option linter.unusedVariables false
set_option maxRecDepth 100000
set_option maxHeartbeats 0
namespace Go.Proofs.Ytkkinfbipndfdaa
open Go Go.AM
def hint3 : Hint := { eqs := [22, 67, 73, 104, 116, 137], dead := [(9, [1, 3, 8, 13, 20, 21, 22, 23, 24, 25, 26, 27, 28, 29, 31, 32, 33, 34, 35, 36, 37, 38, 39, 40, 41, 42, 43, 44, 45, 46, 47, 48, 49, 65, 66, 68]), (13, [12, 54, 55, 56, 57, 58, 59, 60, 61, 62, 63]), (15, [51, 52, 53, 54]), (17, [7, 113]), (23, [15, 16, 17, 71, 72, 73, 74, 75, 76, 77, 78, 79, 80, 81, 82, 83, 84, 85, 86, 87, 88, 89, 90, 91, 92, 93, 94, 95, 96, 97, 98, 99, 100, 101, 102, 103, 104, 105, 106, 107, 108, 109, 110, 111, 112]), (24, [2, 69, 70, 71])], gh := [(7, [.vec 10])], joins := [13, 15, 23, 24] }
noncomputable def body3 : Code := match Try.f3.body with | some c => c | none => .skip
noncomputable def fn3 : Fun := { body := body3, ntmps := 148, results := [.tmp 8], types := [4], hint := hint3, keep := .drop }
def E3 : Env := { T := tiOf, hint := hint3 }
def hint4 : Hint := { dead := [(2, [2, 4, 8, 9, 10, 11, 12, 13, 14, 15, 16, 17, 18, 19, 20, 21, 22, 23, 24, 25, 26]), (7, [5, 6, 7, 8])], joins := [7] }
noncomputable def body4 : Code := match Try.f4.body with | some c => c | none => .skip
noncomputable def fn4 : Fun := { body := body4, ntmps := 30, results := [.tmp 2], types := [4], hint := hint4, keep := .drop }
def E4 : Env := { T := tiOf, hint := hint4 }
def hint5 : Hint := { eqs := [55] }
noncomputable def body5 : Code := match Try.f5.body with | some c => c | none => .skip
noncomputable def fn5 : Fun := { body := body5, ntmps := 90, results := [.tmp 0], types := [4], hint := hint5, keep := .drop }
def E5 : Env := { T := tiOf, hint := hint5 }
def hint6 : Hint := { }
noncomputable def body6 : Code := match Try.f6.body with | some c => c | none => .skip
noncomputable def fn6 : Fun := { body := body6, ntmps := 18, results := [.tmp 2], types := [9], hint := hint6, keep := .drop }
def E6 : Env := { T := tiOf, hint := hint6 }
def hint7 : Hint := { esc := [4, 5], eqs := [15], dead := [(6, [0, 2, 3, 8, 9]), (8, [0, 2, 3, 8, 9])], rid := [(6, 700)], joins := [8] }
noncomputable def body7 : Code := match Try.f7.body with | some c => c | none => .skip
noncomputable def fn7 : Fun := { body := body7, ntmps := 19, results := [.tmp 2, .tmp 3], types := [22, 3], hint := hint7, keep := .drop }
def E7 : Env := { T := tiOf, hint := hint7 }
def ER7 : Env := { T := tiOf, hint := hint7, rnd := true }
noncomputable def rb700 : Code := subc body7 [1, 1, 1, 0, 1, 0, 1]
noncomputable def L700 : LoopC := ⟨700, [10, 11], subc body7 [1, 1, 1, 0, 1, 0, 0], rb700⟩
def hint8 : Hint := { dead := [(4, [4, 5, 6, 7, 8, 9, 10, 11, 14, 15, 16, 17, 18, 19, 20, 21, 22, 23, 24, 25])] }
noncomputable def body8 : Code := match Try.f8.body with | some c => c | none => .skip
noncomputable def fn8 : Fun := { body := body8, ntmps := 26, results := [.tmp 4], types := [4], hint := hint8, keep := .drop }
def E8 : Env := { T := tiOf, hint := hint8 }
def hint9 : Hint := { }
noncomputable def body9 : Code := match Try.f9.body with | some c => c | none => .skip
noncomputable def fn9 : Fun := { body := body9, ntmps := 9, results := [.tmp 4], types := [4], hint := hint9, keep := .drop }
def E9 : Env := { T := tiOf, hint := hint9 }
def hint10 : Hint := { }
noncomputable def body10 : Code := match Try.f10.body with | some c => c | none => .skip
noncomputable def fn10 : Fun := { body := body10, ntmps := 6, results := [.tmp 2], types := [4], hint := hint10, keep := .drop }
def E10 : Env := { T := tiOf, hint := hint10 }
def hint11 : Hint := { eqs := [27, 55] }
noncomputable def body11 : Code := match Try.f11.body with | some c => c | none => .skip
noncomputable def fn11 : Fun := { body := body11, ntmps := 62, results := [.cell 4 42, .tmp 5], types := [42, 43], hint := hint11, keep := .drop }
def E11 : Env := { T := tiOf, hint := hint11 }
def hint12 : Hint := { }
noncomputable def body12 : Code := match Try.f12.body with | some c => c | none => .skip
noncomputable def fn12 : Fun := { body := body12, ntmps := 2, results := [.cell 0 42], types := [42], hint := hint12, keep := .clip }
def E12 : Env := { T := tiOf, hint := hint12 }
def hint13 : Hint := { }
noncomputable def body13 : Code := match Try.f13.body with | some c => c | none => .skip
noncomputable def fn13 : Fun := { body := body13, ntmps := 47, results := [.cell 6 42, .tmp 7], types := [42, 43], hint := hint13, keep := .drop }
def E13 : Env := { T := tiOf, hint := hint13 }
def hint14 : Hint := { gh := [(1, [.frz 3]), (6, [.frz 9])] }
noncomputable def body14 : Code := match Try.f14.body with | some c => c | none => .skip
noncomputable def fn14 : Fun := { body := body14, ntmps := 54, results := [.cell 4 49, .tmp 5], types := [49, 43], hint := hint14, keep := .drop }
def E14 : Env := { T := tiOf, hint := hint14 }
def hint15 : Hint := { }
noncomputable def body15 : Code := match Try.f15.body with | some c => c | none => .skip
noncomputable def fn15 : Fun := { body := body15, ntmps := 23, results := [.tmp 4, .tmp 5], types := [9, 43], hint := hint15, keep := .drop }
def E15 : Env := { T := tiOf, hint := hint15 }
def hint16 : Hint := { eqs := [16], nils := [33] }
noncomputable def body16 : Code := match Try.f16.body with | some c => c | none => .skip
noncomputable def fn16 : Fun := { body := body16, ntmps := 18, results := [.tmp 4, .tmp 5], types := [9, 43], hint := hint16, keep := .drop }
def E16 : Env := { T := tiOf, hint := hint16 }
def hint17 : Hint := { }
noncomputable def body17 : Code := match Try.f17.body with | some c => c | none => .skip
noncomputable def fn17 : Fun := { body := body17, ntmps := 8, results := [.tmp 2], types := [9], hint := hint17, keep := .drop }
def E17 : Env := { T := tiOf, hint := hint17 }
def hint18 : Hint := { esc := [1] }
noncomputable def body18 : Code := match Try.f18.body with | some c => c | none => .skip
noncomputable def fn18 : Fun := { body := body18, ntmps := 4, results := [.tmp 2], types := [56], hint := hint18, keep := .keep }
def E18 : Env := { T := tiOf, hint := hint18 }
def hint19 : Hint := { dead := [(2, [4, 5, 6, 9, 10, 11, 12, 13, 14, 15, 16, 18])] }
noncomputable def body19 : Code := match Try.f19.body with | some c => c | none => .skip
noncomputable def fn19 : Fun := { body := body19, ntmps := 19, results := [.tmp 4], types := [3], hint := hint19, keep := .drop }
def E19 : Env := { T := tiOf, hint := hint19 }
def hint20 : Hint := { dead := [(4, [0, 3, 5, 12, 13, 14, 15, 16, 17, 18, 19, 20, 21, 22, 23, 24, 25, 26, 28, 32, 33, 34, 35, 36, 37, 38, 39, 40, 41, 42, 43, 44, 45, 46, 47, 48, 49, 50, 51, 53]), (9, [29, 30, 31, 32]), (13, [1, 7, 9, 10, 11, 54, 55, 56, 57, 58, 59, 60, 62, 66, 67, 68, 69, 70, 71, 72, 73, 74, 75, 76, 77, 78, 79, 80, 81, 82, 83, 84, 86, 87, 88, 89, 90, 91]), (20, [63, 64, 65, 66])], joins := [9, 20] }
noncomputable def body20 : Code := match Try.f20.body with | some c => c | none => .skip
noncomputable def fn20 : Fun := { body := body20, ntmps := 93, results := [.cell 2 62, .tmp 3], types := [62, 4], hint := hint20, keep := .keep }
def E20 : Env := { T := tiOf, hint := hint20 }
def hint21 : Hint := { dead := [(4, [2, 4, 5, 6, 7, 8, 9, 10, 11, 12, 13, 14, 36, 37, 38, 39, 40, 41, 42, 43, 44, 45, 46, 47, 48, 49, 50, 51, 52, 53, 54, 55, 56, 57, 58]), (8, [3, 17, 18, 19, 20, 21, 22, 23, 24, 25, 26, 27, 28, 29, 30, 31, 32, 33, 34, 35])], joins := [8] }
noncomputable def body21 : Code := match Try.f21.body with | some c => c | none => .skip
noncomputable def fn21 : Fun := { body := body21, ntmps := 59, results := [.tmp 2], types := [4], hint := hint21, keep := .drop }
def E21 : Env := { T := tiOf, hint := hint21 }
def hint22 : Hint := { eqs := [10] }
noncomputable def body22 : Code := match Try.f22.body with | some c => c | none => .skip
noncomputable def fn22 : Fun := { body := body22, ntmps := 13, results := [.cell 4 42], types := [42], hint := hint22, keep := .drop }
def E22 : Env := { T := tiOf, hint := hint22 }
def hint23 : Hint := { eqs := [8] }
noncomputable def body23 : Code := match Try.f23.body with | some c => c | none => .skip
noncomputable def fn23 : Fun := { body := body23, ntmps := 9, results := [.tmp 2], types := [38], hint := hint23, keep := .clip }
def E23 : Env := { T := tiOf, hint := hint23 }
def hint24 : Hint := { dead := [(5, [0, 1, 2, 5, 6, 7, 8, 10, 11, 12, 13, 14, 15, 16])], joins := [5] }
noncomputable def body24 : Code := match Try.f24.body with | some c => c | none => .skip
noncomputable def fn24 : Fun := { body := body24, ntmps := 18, results := [.cell 4 42, .tmp 5], types := [42, 43], hint := hint24, keep := .drop }
def E24 : Env := { T := tiOf, hint := hint24 }
def hint25 : Hint := { eqs := [20] }
noncomputable def body25 : Code := match Try.f25.body with | some c => c | none => .skip
noncomputable def fn25 : Fun := { body := body25, ntmps := 26, results := [.tmp 4, .tmp 5], types := [3, 43], hint := hint25, keep := .drop }
def E25 : Env := { T := tiOf, hint := hint25 }
def hint26 : Hint := { reH := [3], eqr := true }
noncomputable def body26 : Code := match Try.f26.body with | some c => c | none => .skip
noncomputable def fn26 : Fun := { body := body26, ntmps := 17, results := [.cell 6 42], types := [42], hint := hint26, keep := .drop }
def E26 : Env := { T := tiOf, hint := hint26 }
def hint27 : Hint := { }
noncomputable def body27 : Code := match Try.f27.body with | some c => c | none => .skip
noncomputable def fn27 : Fun := { body := body27, ntmps := 12, results := [.cell 4 42, .tmp 5], types := [42, 43], hint := hint27, keep := .drop }
def E27 : Env := { T := tiOf, hint := hint27 }
def hint28 : Hint := { }
noncomputable def body28 : Code := match Try.f28.body with | some c => c | none => .skip
noncomputable def fn28 : Fun := { body := body28, ntmps := 54, results := [.cell 6 42, .tmp 7], types := [42, 43], hint := hint28, keep := .drop }
def E28 : Env := { T := tiOf, hint := hint28 }
def hint29 : Hint := { }
noncomputable def body29 : Code := match Try.f29.body with | some c => c | none => .skip
noncomputable def fn29 : Fun := { body := body29, ntmps := 10, results := [.cell 3 42, .tmp 4], types := [42, 43], hint := hint29, keep := .drop }
def E29 : Env := { T := tiOf, hint := hint29 }
def hint30 : Hint := { }
noncomputable def body30 : Code := match Try.f30.body with | some c => c | none => .skip
noncomputable def fn30 : Fun := { body := body30, ntmps := 36, results := [.cell 4 42, .tmp 5], types := [42, 43], hint := hint30, keep := .drop }
def E30 : Env := { T := tiOf, hint := hint30 }
def hint31 : Hint := { dead := [(2, [0, 1, 5, 7, 8, 9, 13, 14, 15, 16, 17, 18, 19, 20, 21, 22, 23, 26, 27])] }
noncomputable def body31 : Code := match Try.f31.body with | some c => c | none => .skip
noncomputable def fn31 : Fun := { body := body31, ntmps := 29, results := [.cell 4 42, .tmp 5], types := [42, 43], hint := hint31, keep := .drop }
def E31 : Env := { T := tiOf, hint := hint31 }
def hint32 : Hint := { }
noncomputable def body32 : Code := match Try.f32.body with | some c => c | none => .skip
noncomputable def fn32 : Fun := { body := body32, ntmps := 13, results := [.cell 4 49, .tmp 5], types := [49, 43], hint := hint32, keep := .drop }
def E32 : Env := { T := tiOf, hint := hint32 }
def hint33 : Hint := { eqs := [13, 20], dead := [(1, [4, 5, 6, 7, 8, 9, 10, 11, 12, 13, 14, 15]), (4, [5, 6])], joins := [4] }
noncomputable def body33 : Code := match Try.f33.body with | some c => c | none => .skip
noncomputable def fn33 : Fun := { body := body33, ntmps := 21, results := [.tmp 4], types := [30], hint := hint33, keep := .drop }
def E33 : Env := { T := tiOf, hint := hint33 }
def hint34 : Hint := { eqs := [14, 15] }
noncomputable def body34 : Code := match Try.f34.body with | some c => c | none => .skip
noncomputable def fn34 : Fun := { body := body34, ntmps := 16, results := [.tmp 2], types := [9], hint := hint34, keep := .drop }
def E34 : Env := { T := tiOf, hint := hint34 }
def hint35 : Hint := { }
noncomputable def body35 : Code := match Try.f35.body with | some c => c | none => .skip
noncomputable def fn35 : Fun := { body := body35, ntmps := 5, results := [.tmp 2], types := [84], hint := hint35, keep := .drop }
def E35 : Env := { T := tiOf, hint := hint35 }
def hint36 : Hint := { dead := [(1, [4, 5, 6, 7, 8, 9, 10, 11, 12, 13, 14, 15, 16, 17, 18, 19, 20, 21, 22, 23, 24, 25, 26, 27, 28, 29, 30, 31, 32, 33, 34, 35, 36, 37, 38, 39, 40, 41, 42, 43, 44, 45, 46, 47, 48, 49, 50, 51, 52, 53, 54, 55, 56, 57])] }
noncomputable def body36 : Code := match Try.f36.body with | some c => c | none => .skip
noncomputable def fn36 : Fun := { body := body36, ntmps := 58, results := [], types := [], hint := hint36, keep := .keep }
def E36 : Env := { T := tiOf, hint := hint36 }
def hint37 : Hint := { }
noncomputable def body37 : Code := match Try.f37.body with | some c => c | none => .skip
noncomputable def fn37 : Fun := { body := body37, ntmps := 22, results := [.tmp 2, .tmp 3, .tmp 4], types := [3, 3, 43], hint := hint37, keep := .drop }
def E37 : Env := { T := tiOf, hint := hint37 }
def hint38 : Hint := { }
noncomputable def body38 : Code := match Try.f38.body with | some c => c | none => .skip
noncomputable def fn38 : Fun := { body := body38, ntmps := 22, results := [.tmp 2, .tmp 3], types := [9, 43], hint := hint38, keep := .drop }
def E38 : Env := { T := tiOf, hint := hint38 }
def hint39 : Hint := { esc := [11], eqs := [59], dead := [(3, [0, 3, 5, 6, 7, 8, 9, 10, 11, 12, 13, 17, 18, 19, 20, 21, 22, 23, 24, 25, 26, 27, 28, 29, 30, 31, 32, 33, 34, 35, 36, 37, 38, 39, 40, 42, 43, 44, 45, 46, 47, 48, 49, 50, 51, 52, 53, 54, 55, 56, 57, 58, 59, 60, 62, 63, 64, 65, 66, 67, 68, 69, 70, 71, 72, 73]), (12, [1, 14, 15, 16, 17])], reH := [2, 10, 11], joins := [12] }
noncomputable def body39 : Code := match Try.f39.body with | some c => c | none => .skip
noncomputable def fn39 : Fun := { body := body39, ntmps := 75, results := [.cell 2 62, .tmp 3], types := [62, 4], hint := hint39, keep := .keep }
def E39 : Env := { T := tiOf, hint := hint39 }
def hint40 : Hint := { }
noncomputable def body40 : Code := match Try.f40.body with | some c => c | none => .skip
noncomputable def fn40 : Fun := { body := body40, ntmps := 15, results := [.cell 2 93, .tmp 3], types := [93, 4], hint := hint40, keep := .drop }
def E40 : Env := { T := tiOf, hint := hint40 }
def hint41 : Hint := { eqs := [8] }
noncomputable def body41 : Code := match Try.f41.body with | some c => c | none => .skip
noncomputable def fn41 : Fun := { body := body41, ntmps := 9, results := [.tmp 2], types := [40], hint := hint41, keep := .clip }
def E41 : Env := { T := tiOf, hint := hint41 }
def hint42 : Hint := { esc := [7], eqs := [7] }
noncomputable def body42 : Code := match Try.f42.body with | some c => c | none => .skip
noncomputable def fn42 : Fun := { body := body42, ntmps := 8, results := [.tmp 2], types := [38], hint := hint42, keep := .keep }
def E42 : Env := { T := tiOf, hint := hint42 }
def hint43 : Hint := { }
noncomputable def body43 : Code := match Try.f43.body with | some c => c | none => .skip
noncomputable def fn43 : Fun := { body := body43, ntmps := 10, results := [.tmp 4], types := [84], hint := hint43, keep := .drop }
def E43 : Env := { T := tiOf, hint := hint43 }
def hint44 : Hint := { esc := [2, 3, 4, 5], dead := [(5, [0, 8, 9]), (10, [0, 5, 8, 9])], rid := [(5, 4400)], joins := [10] }
noncomputable def body44 : Code := match Try.f44.body with | some c => c | none => .skip
noncomputable def fn44 : Fun := { body := body44, ntmps := 39, results := [.cell 2 82, .cell 3 3, .cell 4 43], types := [82, 3, 43], hint := hint44, keep := .drop }
def E44 : Env := { T := tiOf, hint := hint44 }
def ER44 : Env := { T := tiOf, hint := hint44, rnd := true }
noncomputable def rb4400 : Code := subc body44 [1, 1, 0, 1, 0, 1]
noncomputable def L4400 : LoopC := ⟨4400, [10, 11], subc body44 [1, 1, 0, 1, 0, 0], rb4400⟩
def hint45 : Hint := { eqs := [12, 46] }
noncomputable def body45 : Code := match Try.f45.body with | some c => c | none => .skip
noncomputable def fn45 : Fun := { body := body45, ntmps := 49, results := [.tmp 4], types := [4], hint := hint45, keep := .keep }
def E45 : Env := { T := tiOf, hint := hint45 }
def hint46 : Hint := { reH := [2] }
noncomputable def body46 : Code := match Try.f46.body with | some c => c | none => .skip
noncomputable def fn46 : Fun := { body := body46, ntmps := 15, results := [], types := [], hint := hint46, keep := .keep }
def E46 : Env := { T := tiOf, hint := hint46 }
def hint47 : Hint := { eqs := [12] }
noncomputable def body47 : Code := match Try.f47.body with | some c => c | none => .skip
noncomputable def fn47 : Fun := { body := body47, ntmps := 33, results := [.tmp 4], types := [4], hint := hint47, keep := .keep }
def E47 : Env := { T := tiOf, hint := hint47 }
def hint48 : Hint := { eqs := [12, 24], dead := [(4, [0, 1, 4, 5, 7, 8, 9, 10, 11, 12, 13, 14, 15, 16, 17, 18, 19])], reH := [4, 6], joins := [4] }
noncomputable def body48 : Code := match Try.f48.body with | some c => c | none => .skip
noncomputable def fn48 : Fun := { body := body48, ntmps := 34, results := [], types := [], hint := hint48, keep := .keep }
def E48 : Env := { T := tiOf, hint := hint48 }
def hint49 : Hint := { eqs := [12] }
noncomputable def body49 : Code := match Try.f49.body with | some c => c | none => .skip
noncomputable def fn49 : Fun := { body := body49, ntmps := 26, results := [.tmp 4], types := [4], hint := hint49, keep := .keep }
def E49 : Env := { T := tiOf, hint := hint49 }
def hint50 : Hint := { eqs := [10], reH := [2] }
noncomputable def body50 : Code := match Try.f50.body with | some c => c | none => .skip
noncomputable def fn50 : Fun := { body := body50, ntmps := 16, results := [], types := [], hint := hint50, keep := .keep }
def E50 : Env := { T := tiOf, hint := hint50 }
def hint51 : Hint := { esc := [5], eqs := [34, 41], dead := [(3, [4, 6, 9, 10, 11, 12, 13, 14, 15, 16]), (7, [8, 9]), (8, [17, 18, 19, 20, 21, 22, 23, 24, 25, 26, 27, 28, 29, 30, 31, 32, 33, 34, 35, 36, 37, 38, 39, 40, 41, 42])], reH := [2, 6], joins := [7] }
noncomputable def body51 : Code := match Try.f51.body with | some c => c | none => .skip
noncomputable def fn51 : Fun := { body := body51, ntmps := 44, results := [.tmp 4], types := [84], hint := hint51, keep := .drop }
def E51 : Env := { T := tiOf, hint := hint51 }
def hint52 : Hint := { esc := [1] }
noncomputable def body52 : Code := match Try.f52.body with | some c => c | none => .skip
noncomputable def fn52 : Fun := { body := body52, ntmps := 4, results := [.tmp 2], types := [105], hint := hint52, keep := .keep }
def E52 : Env := { T := tiOf, hint := hint52 }
def hint53 : Hint := { dead := [(2, [1, 4, 16]), (6, [7, 8, 9, 10, 11, 12, 13, 14, 15])], joins := [6] }
noncomputable def body53 : Code := match Try.f53.body with | some c => c | none => .skip
noncomputable def fn53 : Fun := { body := body53, ntmps := 18, results := [.tmp 4], types := [84], hint := hint53, keep := .drop }
def E53 : Env := { T := tiOf, hint := hint53 }
def hint54 : Hint := { dead := [(1, [4, 5, 6, 7, 8, 9, 10, 11, 12, 13, 14, 15, 16, 17, 18, 19, 20, 21, 22, 23, 24, 25, 26])] }
noncomputable def body54 : Code := match Try.f54.body with | some c => c | none => .skip
noncomputable def fn54 : Fun := { body := body54, ntmps := 27, results := [], types := [], hint := hint54, keep := .keep }
def E54 : Env := { T := tiOf, hint := hint54 }
def fnTab : List (Nat × Hint × Keep) := [(3, hint3, .drop), (4, hint4, .drop), (5, hint5, .drop), (6, hint6, .drop), (7, hint7, .drop), (8, hint8, .drop), (9, hint9, .drop), (10, hint10, .drop), (11, hint11, .drop), (12, hint12, .clip), (13, hint13, .drop), (14, hint14, .drop), (15, hint15, .drop), (16, hint16, .drop), (17, hint17, .drop), (18, hint18, .keep), (19, hint19, .drop), (20, hint20, .keep), (21, hint21, .drop), (22, hint22, .drop), (23, hint23, .clip), (24, hint24, .drop), (25, hint25, .drop), (26, hint26, .drop), (27, hint27, .drop), (28, hint28, .drop), (29, hint29, .drop), (30, hint30, .drop), (31, hint31, .drop), (32, hint32, .drop), (33, hint33, .drop), (34, hint34, .drop), (35, hint35, .drop), (36, hint36, .keep), (37, hint37, .drop), (38, hint38, .drop), (39, hint39, .keep), (40, hint40, .drop), (41, hint41, .clip), (42, hint42, .keep), (43, hint43, .drop), (44, hint44, .drop), (45, hint45, .keep), (46, hint46, .keep), (47, hint47, .keep), (48, hint48, .keep), (49, hint49, .keep), (50, hint50, .keep), (51, hint51, .drop), (52, hint52, .keep), (53, hint53, .drop), (54, hint54, .keep)]
def rndTab : List (Nat × Hint × Keep) := [(700, hint7, .keep), (4400, hint44, .keep)]
noncomputable def fnOf (f : FuncId) : Option Fun := match lkN f fnTab with
  | some (h, kp) => match Try.checked.prog.funcs[f]? with
    | some F => bif F.name == "runtime.NumGoroutine" then none else funOf F h kp
    | none => none
  | none => none
def extRel (f : FuncId) (args : List AVal) (H : List HObj) (r : AVal) (H' : List HObj) : Prop :=
  False
noncomputable def G : Prog := { T := tiOf, fns := fnOf, ext := extRel, rnds := fun i => lkN i rndTab }
def Cn (n : Nat) : FuncId → List AVal → List HObj → AVal → List HObj → Prop := fun g args H r H' => CallIn (Run G n g) args H r H'
theorem cnR {n : Nat} {f : FuncId} {args : List AVal} {H H' : List HObj} {r : AVal} (h : Run G n f args H r H') : Cn n f args H r H' := .inr h
theorem cnL {n : Nat} {f : FuncId} {args : List AVal} {H H0 : List HObj} {r : AVal} (h1 : args.all noRefArg = true) (h2 : noRefAll r = true) (h : Run G n f args [] r H0) : Cn n f args H r H := .inl ⟨h1, h2, rfl, _, h⟩
theorem Dq {α β R : Type} {n : Nat} {enc : α → R} {t : Tree R} {x : Option β} {J : β → Option α} (e : β → AVal × List HObj) {f : FuncId} {args : List AVal} (H : List HObj) (hc : ∀ b, x = some b → Run G n f args [] (e b).1 (e b).2)
    (h1 : ∀ b, Dn (Cn n) enc (t.go (e b).1 H) (J b)) (h : t.head = .call f args H := by kernel_rfl) (h2 : args.all noRefArg = true := by kernel_rfl) (h3 : ∀ b, noRefAll (e b).1 = true := by (intro b; kernel_rfl)) : Dn (Cn n) enc t (x.bind J) :=
  Dn.call (fun b => (e b).1) (fun _ => H) h (fun b hb => cnL h2 (h3 b) (hc b hb)) h1
theorem Dqm {α β R : Type} {n : Nat} {enc : α → R} {t : Tree R} {x : Option β} {J : β → Option α} (e : β → AVal × List HObj) {f : FuncId} {args : List AVal} (H : List HObj) (hc : ∀ b, x = some b → Run G n f args [] (e b).1 (e b).2)
    (h1 : ∀ b, Dn (Cn n) enc (t.go (e b).1 H) (J b)) (h : t.head = .call f args H := by kernel_rfl) (h2 : args.all noRefArg = true := by kernel_rfl) (h3 : ∀ b, noRefAll (e b).1 = true := by (intro b; cases b <;> rfl)) : Dn (Cn n) enc t (x.bind J) :=
  Dn.call (fun b => (e b).1) (fun _ => H) h (fun b hb => cnL h2 (h3 b) (hc b hb)) h1
theorem Dp {α β R : Type} {n : Nat} {enc : α → R} {t : Tree R} {x : Option β} {J : β → Option α} (e : β → AVal × List HObj) {f : FuncId} {args : List AVal} {H : List HObj} (hc : ∀ b, x = some b → Run G n f args H (e b).1 (e b).2)
    (h1 : ∀ b, Dn (Cn n) enc (t.go (e b).1 (e b).2) (J b)) (h : t.head = .call f args H := by kernel_rfl) : Dn (Cn n) enc t (x.bind J) :=
  Dn.call (fun b => (e b).1) (fun b => (e b).2) h (fun b hb => cnR (hc b hb)) h1
theorem run_of {n : Nat} {f : FuncId} {fn : Fun} {args : List AVal} {H : List HObj} {r : AVal × List HObj} (hf : fnOf f = some fn) (h : Den (Cn n) (enter { T := tiOf, hint := fn.hint } n fn args H) r) : Run G (n + 1) f args H r.1 r.2 := .inr (.inl ⟨fn, hf, h⟩)
theorem rnd_of {n i id : Nat} {L : LoopC} {ts args : List AVal} {h : Hint} {kp : Keep} {H : List HObj} {r : AVal × List HObj} (hH : H[id]? = some (.loop L ts .ready)) (hi : L.id = i) (hl : args.length = L.params.length) (hr : lkN i rndTab = some (h, kp)) (hd : Den (Cn n) (enterRound { T := tiOf, hint := h, rnd := true } n L kp id ts args H) r) : Run G (n + 1) (rnd0 + i) (.yld id :: args) H r.1 r.2 :=
  .inr (.inr ⟨i, id, args, L, ts, h, kp, rfl, rfl, hH, hi, hl, hr, hd⟩)


end Go.Proofs.Ytkkinfbipndfdaa
