/- PRINTED: the functions of the program, as the machine needs them. -/
import Derived.Test.YtomalcfghdaghaaDoorAmTab
import Derived.Test.YtomalcfghdaghaaDoorAmX
import Derived.Test.YtomalcfghdaghaaDoorLib0
set_option linter.unusedVariables false
set_option maxRecDepth 100000
set_option maxHeartbeats 0
namespace Go.Proofs.YtomalcfghdaghaaDoor
open Go Go.AM
def hint3 : Hint := { }
noncomputable def body3 : Code := match Tryd.f3.body with | some c => c | none => .skip
noncomputable def fn3 : Fun := { body := body3, ntmps := 69, results := [.tmp 4], types := [4], hint := hint3, keep := .drop }
def E3 : Env := { T := tiOf, hint := hint3 }
def hint4 : Hint := { }
noncomputable def body4 : Code := match Tryd.f4.body with | some c => c | none => .skip
noncomputable def fn4 : Fun := { body := body4, ntmps := 84, results := [.tmp 4], types := [4], hint := hint4, keep := .drop }
def E4 : Env := { T := tiOf, hint := hint4 }
def hint5 : Hint := { }
noncomputable def body5 : Code := match Tryd.f5.body with | some c => c | none => .skip
noncomputable def fn5 : Fun := { body := body5, ntmps := 13, results := [.tmp 2], types := [4], hint := hint5, keep := .drop }
def E5 : Env := { T := tiOf, hint := hint5 }
def hint6 : Hint := { }
noncomputable def body6 : Code := match Tryd.f6.body with | some c => c | none => .skip
noncomputable def fn6 : Fun := { body := body6, ntmps := 43, results := [.tmp 0], types := [4], hint := hint6, keep := .drop }
def E6 : Env := { T := tiOf, hint := hint6 }
def hint7 : Hint := { esc := [4], eqs := [16, 37], dead := [(6, [0, 1, 2, 3, 6, 7, 8, 9, 10, 11, 12, 13, 14, 15, 16, 17, 18, 19, 20, 24, 25, 26, 27, 28, 29, 30, 31, 32, 33, 34, 35, 36, 37, 38, 39, 40, 41]), (10, [21, 22, 23, 24])], joins := [10], bld := [(39, 5)] }
noncomputable def body7 : Code := match Tryd.f7.body with | some c => c | none => .skip
noncomputable def fn7 : Fun := { body := body7, ntmps := 44, results := [.tmp 2, .tmp 3], types := [9, 27], hint := hint7, keep := .drop }
def E7 : Env := { T := tiOf, hint := hint7 }
def hint8 : Hint := { }
noncomputable def body8 : Code := match Tryd.f8.body with | some c => c | none => .skip
noncomputable def fn8 : Fun := { body := body8, ntmps := 10, results := [.tmp 2, .tmp 3], types := [9, 27], hint := hint8, keep := .drop }
def E8 : Env := { T := tiOf, hint := hint8 }
def hint9 : Hint := { }
noncomputable def body9 : Code := match Tryd.f9.body with | some c => c | none => .skip
noncomputable def fn9 : Fun := { body := body9, ntmps := 40, results := [.cell 2 24, .tmp 3], types := [24, 27], hint := hint9, keep := .drop }
def E9 : Env := { T := tiOf, hint := hint9 }
def hint10 : Hint := { }
noncomputable def body10 : Code := match Tryd.f10.body with | some c => c | none => .skip
noncomputable def fn10 : Fun := { body := body10, ntmps := 37, results := [.cell 2 24, .tmp 3], types := [24, 27], hint := hint10, keep := .drop }
def E10 : Env := { T := tiOf, hint := hint10 }
def hint11 : Hint := { eqs := [64], dead := [(12, [0, 2, 6, 7, 8, 9, 10, 11, 12, 13, 14, 15, 16, 17, 18, 19, 20, 21, 22, 23, 24, 25, 26, 27, 28, 29, 30, 31, 32, 33, 34, 35, 36, 37, 38, 39, 40, 41, 42, 43, 44, 45, 46, 50, 51, 52, 53, 54, 55, 56, 57, 58, 59, 61, 62, 63, 64, 65, 66, 67, 68, 69, 70])], reH := [10, 20] }
noncomputable def body11 : Code := match Tryd.f11.body with | some c => c | none => .skip
noncomputable def fn11 : Fun := { body := body11, ntmps := 71, results := [.tmp 2], types := [27], hint := hint11, keep := .drop }
def E11 : Env := { T := tiOf, hint := hint11 }
def hint12 : Hint := { dead := [(8, [0, 2, 4, 5, 6, 7, 8, 9, 10, 11, 12, 13, 14, 15, 16, 17, 18, 19, 20, 21, 22, 23, 24, 25, 26, 27, 28, 29, 30, 31, 32, 33, 34, 35, 36, 37, 38, 39, 40])] }
noncomputable def body12 : Code := match Tryd.f12.body with | some c => c | none => .skip
noncomputable def fn12 : Fun := { body := body12, ntmps := 42, results := [.tmp 2], types := [27], hint := hint12, keep := .drop }
def E12 : Env := { T := tiOf, hint := hint12 }
def hint13 : Hint := { dead := [(4, [0, 1, 4, 6, 7, 8, 9, 10, 11, 12, 13, 14, 15, 16, 17, 18, 19, 20, 21, 22, 23, 24, 25, 26, 27, 28, 29, 30, 31, 32, 33, 34, 35, 36, 37, 38, 39, 40, 41, 42, 43, 44, 45, 46, 47, 48, 49, 50, 51, 52, 53, 54, 55, 56, 57, 58])] }
noncomputable def body13 : Code := match Tryd.f13.body with | some c => c | none => .skip
noncomputable def fn13 : Fun := { body := body13, ntmps := 59, results := [.tmp 4], types := [4], hint := hint13, keep := .drop }
def E13 : Env := { T := tiOf, hint := hint13 }
def hint14 : Hint := { eqs := [2] }
noncomputable def body14 : Code := match Tryd.f14.body with | some c => c | none => .skip
noncomputable def fn14 : Fun := { body := body14, ntmps := 4, results := [.cell 0 24], types := [24], hint := hint14, keep := .drop }
def E14 : Env := { T := tiOf, hint := hint14 }
def hint15 : Hint := { dead := [(2, [1, 2, 9, 10, 11, 12, 16, 17, 18, 19, 20, 21, 22, 23, 24, 25]), (7, [13, 14, 15, 16])], joins := [7] }
noncomputable def body15 : Code := match Tryd.f15.body with | some c => c | none => .skip
noncomputable def fn15 : Fun := { body := body15, ntmps := 33, results := [], types := [], hint := hint15, keep := .keep }
def E15 : Env := { T := tiOf, hint := hint15 }
def hint16 : Hint := { }
noncomputable def body16 : Code := match Tryd.f16.body with | some c => c | none => .skip
noncomputable def fn16 : Fun := { body := body16, ntmps := 8, results := [.tmp 2], types := [9], hint := hint16, keep := .drop }
def E16 : Env := { T := tiOf, hint := hint16 }
def hint18 : Hint := { eqs := [18, 19] }
noncomputable def body18 : Code := match Tryd.f18.body with | some c => c | none => .skip
noncomputable def fn18 : Fun := { body := body18, ntmps := 21, results := [.tmp 2], types := [9], hint := hint18, keep := .drop }
def E18 : Env := { T := tiOf, hint := hint18 }
def hint19 : Hint := { dead := [(3, [0, 2, 5, 6, 7, 8, 9, 10, 11, 12, 13, 14, 15, 16, 17, 18, 19, 20, 21, 22, 23, 24, 25, 26, 27, 28, 29, 30, 31, 32, 33, 34, 35, 36, 37, 38, 39, 40, 41, 42, 43, 44, 45, 46, 47, 48, 49, 50, 51, 52, 53, 54, 55, 56, 57, 58, 59, 60, 61, 62, 63, 64, 65, 66, 67])] }
noncomputable def body19 : Code := match Tryd.f19.body with | some c => c | none => .skip
noncomputable def fn19 : Fun := { body := body19, ntmps := 69, results := [.tmp 2], types := [9], hint := hint19, keep := .drop }
def E19 : Env := { T := tiOf, hint := hint19 }
def hint20 : Hint := { }
noncomputable def body20 : Code := match Tryd.f20.body with | some c => c | none => .skip
noncomputable def fn20 : Fun := { body := body20, ntmps := 22, results := [.tmp 2, .tmp 3], types := [9, 27], hint := hint20, keep := .drop }
def E20 : Env := { T := tiOf, hint := hint20 }
def hint21 : Hint := { esc := [2, 3, 4, 5], eqs := [75], dead := [(5, [0, 13, 14]), (15, [0, 5, 13, 14])], rid := [(5, 2100)], joins := [15] }
noncomputable def body21 : Code := match Tryd.f21.body with | some c => c | none => .skip
noncomputable def fn21 : Fun := { body := body21, ntmps := 78, results := [.cell 2 24, .cell 3 4], types := [24, 4], hint := hint21, keep := .drop }
def E21 : Env := { T := tiOf, hint := hint21 }
def ER21 : Env := { T := tiOf, hint := hint21, rnd := true }
noncomputable def rb2100 : Code := subc body21 [1, 1, 1, 0, 1, 0, 1]
noncomputable def L2100 : LoopC := ⟨2100, [15], subc body21 [1, 1, 1, 0, 1, 0, 0], rb2100⟩
def hint22 : Hint := { }
noncomputable def body22 : Code := match Tryd.f22.body with | some c => c | none => .skip
noncomputable def fn22 : Fun := { body := body22, ntmps := 18, results := [.tmp 2, .tmp 3], types := [9, 27], hint := hint22, keep := .drop }
def E22 : Env := { T := tiOf, hint := hint22 }
def hint23 : Hint := { eqs := [25, 63, 92], dead := [(8, [0, 3, 4, 6, 7, 9, 10, 11, 12, 13, 14, 15, 16, 17, 18, 19, 20, 21, 23, 24, 25, 26, 27, 28, 29, 30, 32, 33, 34, 35, 36, 37, 38, 39, 40, 41, 42, 43, 44, 45, 46, 47, 48, 49, 50, 51, 52, 53, 54, 55, 56, 57, 58, 59, 61, 62, 63, 64, 65, 66, 67, 68, 70, 71, 72, 73, 74, 75, 76, 77, 78, 79, 80, 81, 82, 83, 84, 85, 86, 87, 88, 89, 90, 91, 92, 93]), (16, [5, 45, 46])], joins := [16] }
noncomputable def body23 : Code := match Tryd.f23.body with | some c => c | none => .skip
noncomputable def fn23 : Fun := { body := body23, ntmps := 95, results := [.cell 2 24, .tmp 3], types := [24, 4], hint := hint23, keep := .drop }
def E23 : Env := { T := tiOf, hint := hint23 }
def hint24 : Hint := { dead := [(4, [2, 4, 5, 6, 7, 8, 9, 10, 11, 12, 13, 14, 15, 16, 17, 18, 19, 20, 21, 22, 44, 45, 46, 47, 48, 49, 50, 51, 52, 53, 54, 55, 56, 57, 58, 59, 60, 61, 62, 63, 64, 65, 66]), (8, [3, 25, 26, 27, 28, 29, 30, 31, 32, 33, 34, 35, 36, 37, 38, 39, 40, 41, 42, 43])], joins := [8] }
noncomputable def body24 : Code := match Tryd.f24.body with | some c => c | none => .skip
noncomputable def fn24 : Fun := { body := body24, ntmps := 67, results := [.tmp 2], types := [4], hint := hint24, keep := .drop }
def E24 : Env := { T := tiOf, hint := hint24 }
def hint25 : Hint := { }
noncomputable def body25 : Code := match Tryd.f25.body with | some c => c | none => .skip
noncomputable def fn25 : Fun := { body := body25, ntmps := 60, results := [.tmp 6], types := [27], hint := hint25, keep := .drop }
def E25 : Env := { T := tiOf, hint := hint25 }
def hint26 : Hint := { }
noncomputable def body26 : Code := match Tryd.f26.body with | some c => c | none => .skip
noncomputable def fn26 : Fun := { body := body26, ntmps := 15, results := [.tmp 6], types := [4], hint := hint26, keep := .drop }
def E26 : Env := { T := tiOf, hint := hint26 }
def hint27 : Hint := { }
noncomputable def body27 : Code := match Tryd.f27.body with | some c => c | none => .skip
noncomputable def fn27 : Fun := { body := body27, ntmps := 13, results := [.tmp 2], types := [4], hint := hint27, keep := .drop }
def E27 : Env := { T := tiOf, hint := hint27 }
def hint28 : Hint := { dead := [(13, [0, 4, 7, 8, 9, 10, 11, 12, 13, 14, 15, 16, 17, 18, 19, 20, 21, 22, 23, 24, 25, 26, 27, 28, 29, 30, 31, 32, 33, 34, 35, 36, 37, 38, 39, 40, 41, 42, 43, 44, 45, 46, 47, 48, 49, 50, 51, 52, 53, 54, 55, 56, 57, 58, 59, 60, 61, 62, 63, 64, 65, 66, 67, 68, 69, 70, 71, 72, 73, 74, 75, 76, 77, 78, 79])] }
noncomputable def body28 : Code := match Tryd.f28.body with | some c => c | none => .skip
noncomputable def fn28 : Fun := { body := body28, ntmps := 80, results := [.tmp 4], types := [27], hint := hint28, keep := .drop }
def E28 : Env := { T := tiOf, hint := hint28 }
def hint32 : Hint := { eqs := [14, 15] }
noncomputable def body32 : Code := match Tryd.f32.body with | some c => c | none => .skip
noncomputable def fn32 : Fun := { body := body32, ntmps := 16, results := [.tmp 2], types := [9], hint := hint32, keep := .drop }
def E32 : Env := { T := tiOf, hint := hint32 }
def hint33 : Hint := { }
noncomputable def body33 : Code := match Tryd.f33.body with | some c => c | none => .skip
noncomputable def fn33 : Fun := { body := body33, ntmps := 5, results := [.tmp 2], types := [62], hint := hint33, keep := .drop }
def E33 : Env := { T := tiOf, hint := hint33 }
def hint34 : Hint := { }
noncomputable def body34 : Code := match Tryd.f34.body with | some c => c | none => .skip
noncomputable def fn34 : Fun := { body := body34, ntmps := 6, results := [.tmp 2], types := [62], hint := hint34, keep := .drop }
def E34 : Env := { T := tiOf, hint := hint34 }
def hint35 : Hint := { esc := [1] }
noncomputable def body35 : Code := match Tryd.f35.body with | some c => c | none => .skip
noncomputable def fn35 : Fun := { body := body35, ntmps := 4, results := [.tmp 2], types := [67], hint := hint35, keep := .keep }
def E35 : Env := { T := tiOf, hint := hint35 }
def hint36 : Hint := { esc := [29], dead := [(6, [0, 1, 6, 7, 8, 11, 12, 13, 14, 15, 16, 17, 18, 19, 20, 21, 22, 23, 24, 25, 26, 27, 28, 29, 30, 33, 34, 35, 36, 37, 38, 39, 40, 41, 42, 43, 44, 45, 46, 47, 48, 49, 50]), (13, [31, 32, 33])], reH := [5, 12], joins := [13], eqr := true }
noncomputable def body36 : Code := match Tryd.f36.body with | some c => c | none => .skip
noncomputable def fn36 : Fun := { body := body36, ntmps := 57, results := [.tmp 6, .tmp 7, .tmp 8], types := [41, 9, 4], hint := hint36, keep := .drop }
def E36 : Env := { T := tiOf, hint := hint36 }
def hint37 : Hint := { eqs := [28], dead := [(3, [2, 3, 4, 8, 13, 14, 36, 37, 38, 39]), (8, [9, 10, 11, 12, 15, 16, 17, 18, 19, 20, 21, 22, 23, 24, 25, 26, 27, 28, 29, 30, 31, 32, 33, 34, 35]), (10, [0, 6, 7, 9, 10, 11, 12])], joins := [8, 10] }
noncomputable def body37 : Code := match Tryd.f37.body with | some c => c | none => .skip
noncomputable def fn37 : Fun := { body := body37, ntmps := 46, results := [.tmp 2, .tmp 3, .tmp 4], types := [71, 9, 4], hint := hint37, keep := .drop }
def E37 : Env := { T := tiOf, hint := hint37 }
def hint38 : Hint := { eqs := [29], dead := [(3, [2, 3, 6, 7, 8, 9, 10, 11, 12, 13, 14, 15, 16, 17, 18, 19, 20, 21, 22, 23, 24, 26, 27, 28, 29])] }
noncomputable def body38 : Code := match Tryd.f38.body with | some c => c | none => .skip
noncomputable def fn38 : Fun := { body := body38, ntmps := 31, results := [.tmp 2, .tmp 3], types := [41, 4], hint := hint38, keep := .drop }
def E38 : Env := { T := tiOf, hint := hint38 }
def hint39 : Hint := { dead := [(2, [2, 4, 5, 6, 7, 8, 9, 10, 11, 12, 13, 14, 15, 16, 17, 18, 19, 20, 21, 22, 23, 24, 25, 26, 27, 28, 29, 30, 31, 32, 33, 34, 35, 36, 37, 38, 39, 40, 41, 42, 43, 44, 45, 46, 47, 48]), (7, [3, 5, 6, 7, 8])], joins := [7] }
noncomputable def body39 : Code := match Tryd.f39.body with | some c => c | none => .skip
noncomputable def fn39 : Fun := { body := body39, ntmps := 57, results := [.tmp 2], types := [4], hint := hint39, keep := .drop }
def E39 : Env := { T := tiOf, hint := hint39 }
def hint42 : Hint := { }
noncomputable def body42 : Code := match Tryd.f42.body with | some c => c | none => .skip
noncomputable def fn42 : Fun := { body := body42, ntmps := 10, results := [.tmp 4], types := [62], hint := hint42, keep := .drop }
def E42 : Env := { T := tiOf, hint := hint42 }
def hint43 : Hint := { dead := [(2, [4, 6, 7, 8, 9, 10, 11, 12, 13, 14, 15, 16, 17, 18])] }
noncomputable def body43 : Code := match Tryd.f43.body with | some c => c | none => .skip
noncomputable def fn43 : Fun := { body := body43, ntmps := 20, results := [.tmp 4], types := [62], hint := hint43, keep := .drop }
def E43 : Env := { T := tiOf, hint := hint43 }
def hint44 : Hint := { dead := [(1, [1, 4, 5, 6, 7, 8, 9, 10, 11, 12, 13, 14, 15, 16, 17, 18, 19, 20, 21, 22, 23, 24, 25, 26])] }
noncomputable def body44 : Code := match Tryd.f44.body with | some c => c | none => .skip
noncomputable def fn44 : Fun := { body := body44, ntmps := 27, results := [], types := [], hint := hint44, keep := .keep }
def E44 : Env := { T := tiOf, hint := hint44 }
def hint48 : Hint := { dead := [(3, [2, 3, 6, 7, 8, 9, 10, 11, 12, 13, 14, 15, 16, 17, 18, 19, 20, 21, 22, 23, 24, 25, 26, 27, 28, 29, 30, 31, 32, 33]), (8, [5, 6, 7, 8, 9])], joins := [8] }
noncomputable def body48 : Code := match Tryd.f48.body with | some c => c | none => .skip
noncomputable def fn48 : Fun := { body := body48, ntmps := 42, results := [.tmp 2, .tmp 3], types := [3, 4], hint := hint48, keep := .drop }
def E48 : Env := { T := tiOf, hint := hint48 }
def hint51 : Hint := { esc := [5], eqs := [34, 41], dead := [(3, [4, 6, 9, 10, 11, 12, 13, 14, 15, 16]), (7, [8, 9]), (8, [17, 18, 19, 20, 21, 22, 23, 24, 25, 26, 27, 28, 29, 30, 31, 32, 33, 34, 35, 36, 37, 38, 39, 40, 41, 42])], reH := [2, 6], joins := [7] }
noncomputable def body51 : Code := match Tryd.f51.body with | some c => c | none => .skip
noncomputable def fn51 : Fun := { body := body51, ntmps := 44, results := [.tmp 4], types := [62], hint := hint51, keep := .drop }
def E51 : Env := { T := tiOf, hint := hint51 }
def hint52 : Hint := { dead := [(2, [2, 6, 7]), (3, [4, 5, 8, 9, 10, 11, 12, 13, 14, 15])], joins := [3] }
noncomputable def body52 : Code := match Tryd.f52.body with | some c => c | none => .skip
noncomputable def fn52 : Fun := { body := body52, ntmps := 17, results := [.tmp 2], types := [62], hint := hint52, keep := .drop }
def E52 : Env := { T := tiOf, hint := hint52 }
def hint61 : Hint := { dead := [(2, [1, 4, 16]), (6, [7, 8, 9, 10, 11, 12, 13, 14, 15])], joins := [6] }
noncomputable def body61 : Code := match Tryd.f61.body with | some c => c | none => .skip
noncomputable def fn61 : Fun := { body := body61, ntmps := 18, results := [.tmp 4], types := [62], hint := hint61, keep := .drop }
def E61 : Env := { T := tiOf, hint := hint61 }
def fnTab : List (Nat × Hint × Keep) := [(3, hint3, .drop), (4, hint4, .drop), (5, hint5, .drop), (6, hint6, .drop), (7, hint7, .drop), (8, hint8, .drop), (9, hint9, .drop), (10, hint10, .drop), (11, hint11, .drop), (12, hint12, .drop), (13, hint13, .drop), (14, hint14, .drop), (15, hint15, .keep), (16, hint16, .drop), (18, hint18, .drop), (19, hint19, .drop), (20, hint20, .drop), (21, hint21, .drop), (22, hint22, .drop), (23, hint23, .drop), (24, hint24, .drop), (25, hint25, .drop), (26, hint26, .drop), (27, hint27, .drop), (28, hint28, .drop), (32, hint32, .drop), (33, hint33, .drop), (34, hint34, .drop), (35, hint35, .keep), (36, hint36, .drop), (37, hint37, .drop), (38, hint38, .drop), (39, hint39, .drop), (42, hint42, .drop), (43, hint43, .drop), (44, hint44, .keep), (48, hint48, .drop), (51, hint51, .drop), (52, hint52, .drop), (61, hint61, .drop)]
def rndTab : List (Nat × Hint × Keep) := [(2100, hint21, .keep)]
noncomputable def fnOf (f : FuncId) : Option Fun := match lkN f fnTab with
  | some (h, kp) => match Tryd.checked.prog.funcs[f]? with
    | some F => bif F.name == "runtime.NumGoroutine" then none else funOf F h kp
    | none => none
  | none => none
def extRel (f : FuncId) (args : List AVal) (H : List HObj) (r : AVal) (H' : List HObj) : Prop :=
  (f = 29 ∧ relWrite 39 5 args H r H') ∨ (f = 30 ∧ relByte 39 5 args H r H') ∨ (f = 17 ∧ relString 39 5 args H r H') ∨ (f = 31 ∧ relItoa args H r H') ∨ (f = 47 ∧ relAtoi args H r H') ∨ (f = 45 ∧ relCut args H r H') ∨ (f = 46 ∧ relSplit args H r H')
noncomputable def G : Prog := { T := tiOf, fns := fnOf, ext := extRel, rnds := fun i => lkN i rndTab }
def Cn (n : Nat) : FuncId → List AVal → List HObj → AVal → List HObj → Prop := fun g args H r H' => CallIn (Run G n g) args H r H'
theorem cnR {n : Nat} {f : FuncId} {args : List AVal} {H H' : List HObj} {r : AVal} (h : Run G n f args H r H') : Cn n f args H r H' := .inr h
theorem cnL {n : Nat} {f : FuncId} {args : List AVal} {H H0 : List HObj} {r : AVal} (h1 : args.all noRefArg = true) (h2 : noRefAll r = true) (h : Run G n f args [] r H0) : Cn n f args H r H := .inl ⟨h1, h2, rfl, _, h⟩
theorem Dq {α β R : Type} {n : Nat} {enc : α → R} {t : Tree R} {x : Option β} {J : β → Option α} (e : β → AVal × List HObj) {f : FuncId} {args : List AVal} (H : List HObj) (hc : ∀ b, x = some b → Run G n f args [] (e b).1 (e b).2)
    (h1 : ∀ b, Dn (Cn n) enc (t.go (e b).1 H) (J b)) (h : t.head = .call f args H := by kernel_rfl) (h2 : args.all noRefArg = true := by kernel_rfl) (h3 : ∀ b, noRefAll (e b).1 = true := by (intro b; kernel_rfl)) : Dn (Cn n) enc t (x.bind J) :=
  Dn.call (fun b => (e b).1) (fun _ => H) h (fun b hb => cnL h2 (h3 b) (hc b hb)) h1
theorem Dqm {α β R : Type} {n : Nat} {enc : α → R} {t : Tree R} {x : Option β} {J : β → Option α} (e : β → AVal × List HObj) {f : FuncId} {args : List AVal} (H : List HObj) (hc : ∀ b, x = some b → Run G n f args [] (e b).1 (e b).2)
    (h1 : ∀ b, Dn (Cn n) enc (t.go (e b).1 H) (J b)) (h : t.head = .call f args H := by kernel_rfl) (h2 : args.all noRefArg = true := by kernel_rfl) (h3 : ∀ b, noRefAll (e b).1 = true := by (intro b; cases b <;> rfl)) : Dn (Cn n) enc t (x.bind J) :=
  Dn.call (fun b => (e b).1) (fun _ => H) h (fun b hb => cnL h2 (h3 b) (hc b hb)) h1
theorem Dp {α β R : Type} {n : Nat} {enc : α → R} {t : Tree R} {x : Option β} {J : β → Option α} (e : β → AVal × List HObj) {f : FuncId} {args : List AVal} {H : List HObj} (hc : ∀ b, x = some b → Run G n f args H (e b).1 (e b).2)
    (h1 : ∀ b, Dn (Cn n) enc (t.go (e b).1 (e b).2) (J b)) (h : t.head = .call f args H := by kernel_rfl) : Dn (Cn n) enc t (x.bind J) :=
  Dn.call (fun b => (e b).1) (fun b => (e b).2) h (fun b hb => cnR (hc b hb)) h1
theorem run_of {n : Nat} {f : FuncId} {fn : Fun} {args : List AVal} {H : List HObj} {r : AVal × List HObj} (hf : fnOf f = some fn) (h : Den (Cn n) (enter { T := tiOf, hint := fn.hint } n fn args H) r) : Run G (n + 1) f args H r.1 r.2 := .inr (.inl ⟨fn, hf, h⟩)
theorem rnd_of {n i id : Nat} {L : LoopC} {ts args : List AVal} {h : Hint} {kp : Keep} {H : List HObj} {r : AVal × List HObj} (hH : H[id]? = some (.loop L ts .ready)) (hi : L.id = i) (hl : args.length = L.params.length) (hr : lkN i rndTab = some (h, kp)) (hd : Den (Cn n) (enterRound { T := tiOf, hint := h, rnd := true } n L kp id ts args H) r) : Run G (n + 1) (rnd0 + i) (.yld id :: args) H r.1 r.2 :=
  .inr (.inr ⟨i, id, args, L, ts, h, kp, rfl, rfl, hH, hi, hl, hr, hd⟩)
theorem bwrite_ok {n id : Nat} {H : List HObj} {b s c : ByteArray} (h1 : H[id]? = some (.bld 39 5 b)) (h : bWrite n b s = some c) : Run G n 29 [.href id 0, .str s] H (.tuple [.int .i64 s.size, .nilIface]) (H.set id (.bld 39 5 c)) := by
  cases n with
  | zero => cases h
  | succ n =>
    unfold bWrite at h
    cases hc : decide (b.size + s.size ≤ 140737488355328) with
    | false => simp only [hc, cond_false] at h; cases h
    | true =>
      simp only [hc, cond_true, Option.some.injEq] at h
      subst h
      exact .inl (.inl ⟨rfl, id, b, s, rfl, h1, of_decide_eq_true hc, rfl, rfl⟩)
theorem bbyte_ok {n id : Nat} {H : List HObj} {b d : ByteArray} {c : Int} (h1 : H[id]? = some (.bld 39 5 b)) (h : bByte n b c = some d) : Run G n 30 [.href id 0, .int .u8 c] H .nilIface (H.set id (.bld 39 5 d)) := by
  cases n with
  | zero => cases h
  | succ n =>
    unfold bByte at h
    cases hc : (decide (b.size + 1 ≤ 140737488355328) && (decide (0 ≤ c) && decide (c < 256))) with
    | false => simp only [hc, cond_false] at h; cases h
    | true =>
      simp only [hc, cond_true, Option.some.injEq] at h
      subst h
      simp only [Bool.and_eq_true, decide_eq_true_eq] at hc
      exact .inl (.inr (.inl ⟨rfl, id, b, c, rfl, h1, hc.1, hc.2.1, hc.2.2, rfl, rfl⟩))
theorem bstring_ok {n id : Nat} {H : List HObj} {b c : ByteArray} (h1 : H[id]? = some (.bld 39 5 b)) (h : bString n b = some c) : Run G n 17 [.href id 0] H (.str c) H := by
  cases n with
  | zero => cases h
  | succ n =>
    unfold bString at h
    cases hc : decide (1 ≤ b.size) with
    | false => simp only [hc, cond_false] at h; cases h
    | true =>
      simp only [hc, cond_true, Option.some.injEq] at h
      subst h
      exact .inl (.inr (.inr (.inl ⟨rfl, id, b, rfl, h1, of_decide_eq_true hc, rfl, rfl⟩)))
theorem itoa_ok {n : Nat} {H : List HObj} {x : Int} {b : ByteArray} (h : itoaS n x = some b) : Run G n 31 [.int .i64 x] H (.str b) H := by
  cases n with
  | zero => cases h
  | succ n => exact .inl (.inr (.inr (.inr (.inl ⟨rfl, rel_itoa H h⟩))))
theorem atoi_ok {n : Nat} {H : List HObj} {s : ByteArray} {b : AtoiR} (h : atoiS n s = some b) : Run G n 47 [.str s] H (atoiE H b).1 (atoiE H b).2 := by
  cases n with
  | zero => cases h
  | succ n => exact .inl (.inr (.inr (.inr (.inr (.inl ⟨rfl, rel_atoi H h⟩)))))
theorem cut_ok {n : Nat} {H : List HObj} {s sep : ByteArray} {b : ByteArray × ByteArray × Bool} (h : cutS n s sep = some b) : Run G n 45 [.str s, .str sep] H (.tuple [.str b.1, .str b.2.1, .bool b.2.2]) H := by
  cases n with
  | zero => cases h
  | succ n => exact .inl (.inr (.inr (.inr (.inr (.inr (.inl ⟨rfl, rel_cut H h⟩))))))
theorem split_ok {n : Nat} {H : List HObj} {s sep : ByteArray} {b : List ByteArray} (h : splitS n s sep = some b) : Run G n 46 [.str s, .str sep] H (encL 1 AVal.str bE b) H := by
  cases n with
  | zero => cases h
  | succ n => exact .inl (.inr (.inr (.inr (.inr (.inr (.inr (⟨rfl, rel_split H h⟩)))))))

end Go.Proofs.YtomalcfghdaghaaDoor
