/- PRINTED: the functions of the program, as the machine needs them. -/
import Derived.Test.YtkignmhjbjgkoaaAmTab
import Derived.Test.YtkignmhjbjgkoaaAmX
set_option linter.unusedVariables false
set_option maxRecDepth 100000
set_option maxHeartbeats 0
namespace Go.Proofs.Ytkignmhjbjgkoaa
open Go Go.AM
def hint8 : Hint := { dead := [(5, [0, 4, 7, 8, 9, 12, 13, 14, 15, 16, 17, 18, 19, 20, 21, 22, 23, 24, 25, 26, 27, 28, 30, 31, 32, 36, 37, 38, 39, 40, 41, 42, 43, 44, 45, 46, 47, 48]), (12, [33, 34, 35, 36])], joins := [12] }
noncomputable def body8 : Code := match Try.f8.body with | some c => c | none => .skip
noncomputable def fn8 : Fun := { body := body8, ntmps := 67, results := [.tmp 4], types := [4], hint := hint8, keep := .drop }
def E8 : Env := { T := tiOf, hint := hint8 }
def hint13 : Hint := { eqs := [32], dead := [(25, [0, 1, 2, 4, 6, 8, 10, 11, 12, 13, 14, 15, 17, 18, 19, 20, 21, 22, 23, 24, 26, 27, 28, 29, 30, 31, 32, 33, 34, 35, 36, 37, 38, 39, 40, 41, 42, 43, 44, 45, 46, 47, 48, 49, 50, 51, 52, 53, 54, 55, 56, 57, 58, 59, 60, 61, 62, 63, 64, 65, 66, 67, 68, 69, 70, 71, 72, 73, 74, 75, 76, 77, 78, 79, 80, 81, 82, 83, 84, 85])], reH := [22, 25], joins := [25] }
noncomputable def body13 : Code := match Try.f13.body with | some c => c | none => .skip
noncomputable def fn13 : Fun := { body := body13, ntmps := 106, results := [.tmp 4], types := [4], hint := hint13, keep := .drop }
def E13 : Env := { T := tiOf, hint := hint13 }
def hint32 : Hint := { dead := [(5, [0, 2, 7, 8, 9, 10, 11, 12, 13, 14, 15, 16, 17, 18, 19, 20, 21, 22, 23, 24, 25, 26, 27, 28, 29, 30, 31, 32, 33, 34, 35, 36, 37, 38, 39, 40, 41, 42, 43, 44, 45, 46]), (10, [4, 23, 24, 25, 26, 27]), (11, [47, 48, 49, 50, 51, 52, 53, 54, 55, 56, 57, 58, 59, 60, 61]), (15, [5, 47, 48, 49, 50, 51]), (16, [62, 63, 64, 65, 66, 67, 68, 69, 70, 71, 72, 73, 74, 75, 76, 77, 78, 79, 80, 81, 82, 83, 84, 85, 86]), (20, [1, 6, 62, 63, 64, 65, 66])], joins := [10, 15, 20] }
noncomputable def body32 : Code := match Try.f32.body with | some c => c | none => .skip
noncomputable def fn32 : Fun := { body := body32, ntmps := 89, results := [.tmp 2], types := [4], hint := hint32, keep := .drop }
def E32 : Env := { T := tiOf, hint := hint32 }
def hint33 : Hint := { eqs := [27] }
noncomputable def body33 : Code := match Try.f33.body with | some c => c | none => .skip
noncomputable def fn33 : Fun := { body := body33, ntmps := 67, results := [.tmp 0], types := [4], hint := hint33, keep := .drop }
def E33 : Env := { T := tiOf, hint := hint33 }
def hint34 : Hint := { }
noncomputable def body34 : Code := match Try.f34.body with | some c => c | none => .skip
noncomputable def fn34 : Fun := { body := body34, ntmps := 23, results := [.tmp 4, .tmp 5], types := [9, 48], hint := hint34, keep := .drop }
def E34 : Env := { T := tiOf, hint := hint34 }
def hint36 : Hint := { }
noncomputable def body36 : Code := match Try.f36.body with | some c => c | none => .skip
noncomputable def fn36 : Fun := { body := body36, ntmps := 12, results := [.tmp 2], types := [48], hint := hint36, keep := .drop }
def E36 : Env := { T := tiOf, hint := hint36 }
def hint39 : Hint := { }
noncomputable def body39 : Code := match Try.f39.body with | some c => c | none => .skip
noncomputable def fn39 : Fun := { body := body39, ntmps := 16, results := [.tmp 2], types := [23], hint := hint39, keep := .drop }
def E39 : Env := { T := tiOf, hint := hint39 }
def hint42 : Hint := { esc := [3, 9], eqs := [47, 82, 106, 114], dead := [(11, [0, 1, 3, 5, 6, 8, 9, 11, 21, 22, 23, 24, 25, 26, 27, 29, 30, 31, 32, 33, 34, 35, 37, 38, 39, 40, 41, 42, 43, 44, 45, 46, 65]), (16, [13, 14, 15, 50, 51, 52, 53, 54, 55, 56, 57, 58, 59, 60, 61, 62, 63, 64]), (17, [47, 48, 49, 50]), (19, [17, 18, 19, 20, 66, 67, 68, 69, 73, 74, 75, 76, 77, 78, 79, 80, 81, 82, 83, 84, 85, 86, 87, 88, 89, 90, 91, 92, 93, 94, 95, 96, 97, 98, 99, 100, 101, 102, 103, 104, 105, 106, 107, 108, 109, 110, 111, 112, 113, 114, 115, 116]), (26, [2, 7, 10, 70, 71, 72, 73])], joins := [16, 17, 26] }
noncomputable def body42 : Code := match Try.f42.body with | some c => c | none => .skip
noncomputable def fn42 : Fun := { body := body42, ntmps := 118, results := [.cell 4 43], types := [43], hint := hint42, keep := .drop }
def E42 : Env := { T := tiOf, hint := hint42 }
def hint44 : Hint := { dead := [(3, [0, 2, 8, 9, 27]), (8, [5, 6, 7, 13, 14, 15, 16, 17, 18, 19, 20, 21, 22, 23, 24, 25, 26])], reH := [8], joins := [8] }
noncomputable def body44 : Code := match Try.f44.body with | some c => c | none => .skip
noncomputable def fn44 : Fun := { body := body44, ntmps := 29, results := [.tmp 2], types := [62], hint := hint44, keep := .keep }
def E44 : Env := { T := tiOf, hint := hint44 }
def hint45 : Hint := { }
noncomputable def body45 : Code := match Try.f45.body with | some c => c | none => .skip
noncomputable def fn45 : Fun := { body := body45, ntmps := 36, results := [.cell 4 43, .tmp 5], types := [43, 48], hint := hint45, keep := .drop }
def E45 : Env := { T := tiOf, hint := hint45 }
def hint46 : Hint := { esc := [26], eqs := [39, 50, 69, 71, 74], dead := [(7, [0, 3, 5, 12, 13, 14, 15, 16, 17, 18, 20, 21, 22, 23, 24, 25, 26, 27, 52]), (12, [8, 9, 31, 32, 33, 34, 35, 36, 37, 38, 39, 40, 41, 42, 43, 44, 45, 46, 47, 48, 49, 50, 51]), (13, [28, 29, 30, 31]), (14, [11, 53, 54, 55, 59, 60, 61, 62, 63, 64, 65, 66, 67, 68, 69, 70, 71, 72, 73, 74, 75, 76]), (18, [4, 7, 56, 57, 58, 59])], reH := [6, 11], joins := [12, 13, 18] }
noncomputable def body46 : Code := match Try.f46.body with | some c => c | none => .skip
noncomputable def fn46 : Fun := { body := body46, ntmps := 82, results := [.cell 2 43, .tmp 3], types := [43, 48], hint := hint46, keep := .drop }
def E46 : Env := { T := tiOf, hint := hint46 }
def hint47 : Hint := { eqs := [19, 30, 32], dead := [(2, [4, 5, 6, 7, 8, 9, 11, 12, 13, 14, 15, 16, 17, 18, 19, 20, 21, 22, 23, 24, 25, 26, 27, 28]), (7, [11, 12])], reH := [3], gh := [(6, [.unl 10]), (7, [.unl 10])], joins := [7] }
noncomputable def body47 : Code := match Try.f47.body with | some c => c | none => .skip
noncomputable def fn47 : Fun := { body := body47, ntmps := 34, results := [.tmp 4], types := [4], hint := hint47, keep := .keep }
def E47 : Env := { T := tiOf, hint := hint47 }
def hint51 : Hint := { }
noncomputable def body51 : Code := match Try.f51.body with | some c => c | none => .skip
noncomputable def fn51 : Fun := { body := body51, ntmps := 42, results := [.cell 6 43, .tmp 7], types := [43, 48], hint := hint51, keep := .drop }
def E51 : Env := { T := tiOf, hint := hint51 }
def hint52 : Hint := { }
noncomputable def body52 : Code := match Try.f52.body with | some c => c | none => .skip
noncomputable def fn52 : Fun := { body := body52, ntmps := 19, results := [.tmp 2], types := [4], hint := hint52, keep := .drop }
def E52 : Env := { T := tiOf, hint := hint52 }
def hint53 : Hint := { }
noncomputable def body53 : Code := match Try.f53.body with | some c => c | none => .skip
noncomputable def fn53 : Fun := { body := body53, ntmps := 66, results := [.cell 4 43, .tmp 5], types := [43, 48], hint := hint53, keep := .drop }
def E53 : Env := { T := tiOf, hint := hint53 }
def hint55 : Hint := { }
noncomputable def body55 : Code := match Try.f55.body with | some c => c | none => .skip
noncomputable def fn55 : Fun := { body := body55, ntmps := 2, results := [.cell 0 43], types := [43], hint := hint55, keep := .clip }
def E55 : Env := { T := tiOf, hint := hint55 }
def hint58 : Hint := { eqs := [27, 55] }
noncomputable def body58 : Code := match Try.f58.body with | some c => c | none => .skip
noncomputable def fn58 : Fun := { body := body58, ntmps := 62, results := [.cell 4 43, .tmp 5], types := [43, 48], hint := hint58, keep := .drop }
def E58 : Env := { T := tiOf, hint := hint58 }
def hint59 : Hint := { }
noncomputable def body59 : Code := match Try.f59.body with | some c => c | none => .skip
noncomputable def fn59 : Fun := { body := body59, ntmps := 47, results := [.cell 6 43, .tmp 7], types := [43, 48], hint := hint59, keep := .drop }
def E59 : Env := { T := tiOf, hint := hint59 }
def hint80 : Hint := { eqs := [20] }
noncomputable def body80 : Code := match Try.f80.body with | some c => c | none => .skip
noncomputable def fn80 : Fun := { body := body80, ntmps := 26, results := [.tmp 4, .tmp 5], types := [3, 48], hint := hint80, keep := .drop }
def E80 : Env := { T := tiOf, hint := hint80 }
def hint82 : Hint := { dead := [(4, [0, 3, 5, 12, 13, 14, 15, 16, 17, 18, 19, 20, 21, 22, 23, 24, 25, 26, 28, 32, 33, 34, 35, 36, 37, 38, 39, 40, 41, 42, 43, 44, 45, 46, 47, 48, 49, 50, 51, 53]), (9, [29, 30, 31, 32]), (13, [1, 7, 9, 10, 11, 54, 55, 56, 57, 58, 59, 60, 62, 66, 67, 68, 69, 70, 71, 72, 73, 74, 75, 76, 77, 78, 79, 80, 81, 82, 83, 84, 86, 87, 88, 89, 90, 91]), (20, [63, 64, 65, 66])], joins := [9, 20] }
noncomputable def body82 : Code := match Try.f82.body with | some c => c | none => .skip
noncomputable def fn82 : Fun := { body := body82, ntmps := 93, results := [.cell 2 118, .tmp 3], types := [118, 4], hint := hint82, keep := .keep }
def E82 : Env := { T := tiOf, hint := hint82 }
def hint86 : Hint := { esc := [1] }
noncomputable def body86 : Code := match Try.f86.body with | some c => c | none => .skip
noncomputable def fn86 : Fun := { body := body86, ntmps := 4, results := [.tmp 2], types := [125], hint := hint86, keep := .keep }
def E86 : Env := { T := tiOf, hint := hint86 }
def hint88 : Hint := { esc := [11], eqs := [59], dead := [(3, [0, 3, 5, 6, 7, 8, 9, 10, 11, 12, 13, 17, 18, 19, 20, 21, 22, 23, 24, 25, 26, 27, 28, 29, 30, 31, 32, 33, 34, 35, 36, 37, 38, 39, 40, 42, 43, 44, 45, 46, 47, 48, 49, 50, 51, 52, 53, 54, 55, 56, 57, 58, 59, 60, 62, 63, 64, 65, 66, 67, 68, 69, 70, 71, 72, 73]), (12, [1, 14, 15, 16, 17])], reH := [2, 10, 11], joins := [12] }
noncomputable def body88 : Code := match Try.f88.body with | some c => c | none => .skip
noncomputable def fn88 : Fun := { body := body88, ntmps := 75, results := [.cell 2 118, .tmp 3], types := [118, 4], hint := hint88, keep := .keep }
def E88 : Env := { T := tiOf, hint := hint88 }
def hint89 : Hint := { }
noncomputable def body89 : Code := match Try.f89.body with | some c => c | none => .skip
noncomputable def fn89 : Fun := { body := body89, ntmps := 24, results := [.tmp 4], types := [3], hint := hint89, keep := .keep }
def E89 : Env := { T := tiOf, hint := hint89 }
def hint90 : Hint := { }
noncomputable def body90 : Code := match Try.f90.body with | some c => c | none => .skip
noncomputable def fn90 : Fun := { body := body90, ntmps := 15, results := [.cell 2 132, .tmp 3], types := [132, 4], hint := hint90, keep := .drop }
def E90 : Env := { T := tiOf, hint := hint90 }
def hint92 : Hint := { dead := [(5, [0, 1, 2, 5, 6, 7, 8, 10, 11, 12, 13, 14, 15, 16])], joins := [5] }
noncomputable def body92 : Code := match Try.f92.body with | some c => c | none => .skip
noncomputable def fn92 : Fun := { body := body92, ntmps := 18, results := [.cell 4 43, .tmp 5], types := [43, 48], hint := hint92, keep := .drop }
def E92 : Env := { T := tiOf, hint := hint92 }
def hint93 : Hint := { reH := [3], eqr := true }
noncomputable def body93 : Code := match Try.f93.body with | some c => c | none => .skip
noncomputable def fn93 : Fun := { body := body93, ntmps := 17, results := [.cell 6 43], types := [43], hint := hint93, keep := .drop }
def E93 : Env := { T := tiOf, hint := hint93 }
def hint96 : Hint := { dead := [(4, [2, 4, 5, 6, 7, 8, 9, 10, 11, 12, 13, 14, 36, 37, 38, 39, 40, 41, 42, 43, 44, 45, 46, 47, 48, 49, 50, 51, 52, 53, 54, 55, 56, 57, 58]), (8, [3, 17, 18, 19, 20, 21, 22, 23, 24, 25, 26, 27, 28, 29, 30, 31, 32, 33, 34, 35])], joins := [8] }
noncomputable def body96 : Code := match Try.f96.body with | some c => c | none => .skip
noncomputable def fn96 : Fun := { body := body96, ntmps := 59, results := [.tmp 2], types := [4], hint := hint96, keep := .drop }
def E96 : Env := { T := tiOf, hint := hint96 }
def hint97 : Hint := { eqs := [10] }
noncomputable def body97 : Code := match Try.f97.body with | some c => c | none => .skip
noncomputable def fn97 : Fun := { body := body97, ntmps := 13, results := [.cell 4 43], types := [43], hint := hint97, keep := .drop }
def E97 : Env := { T := tiOf, hint := hint97 }
def hint98 : Hint := { }
noncomputable def body98 : Code := match Try.f98.body with | some c => c | none => .skip
noncomputable def fn98 : Fun := { body := body98, ntmps := 31, results := [.cell 4 43, .tmp 5], types := [43, 48], hint := hint98, keep := .drop }
def E98 : Env := { T := tiOf, hint := hint98 }
def hint99 : Hint := { }
noncomputable def body99 : Code := match Try.f99.body with | some c => c | none => .skip
noncomputable def fn99 : Fun := { body := body99, ntmps := 54, results := [.cell 6 43, .tmp 7], types := [43, 48], hint := hint99, keep := .drop }
def E99 : Env := { T := tiOf, hint := hint99 }
def hint107 : Hint := { eqs := [8] }
noncomputable def body107 : Code := match Try.f107.body with | some c => c | none => .skip
noncomputable def fn107 : Fun := { body := body107, ntmps := 9, results := [.tmp 2], types := [39], hint := hint107, keep := .clip }
def E107 : Env := { T := tiOf, hint := hint107 }
def hint129 : Hint := { eqs := [12, 46] }
noncomputable def body129 : Code := match Try.f129.body with | some c => c | none => .skip
noncomputable def fn129 : Fun := { body := body129, ntmps := 49, results := [.tmp 4], types := [4], hint := hint129, keep := .keep }
def E129 : Env := { T := tiOf, hint := hint129 }
def hint130 : Hint := { reH := [2] }
noncomputable def body130 : Code := match Try.f130.body with | some c => c | none => .skip
noncomputable def fn130 : Fun := { body := body130, ntmps := 15, results := [], types := [], hint := hint130, keep := .keep }
def E130 : Env := { T := tiOf, hint := hint130 }
def hint131 : Hint := { eqs := [12] }
noncomputable def body131 : Code := match Try.f131.body with | some c => c | none => .skip
noncomputable def fn131 : Fun := { body := body131, ntmps := 33, results := [.tmp 4], types := [4], hint := hint131, keep := .keep }
def E131 : Env := { T := tiOf, hint := hint131 }
def hint132 : Hint := { eqs := [12, 24], dead := [(4, [0, 1, 4, 5, 7, 8, 9, 10, 11, 12, 13, 14, 15, 16, 17, 18, 19])], reH := [4, 6], joins := [4] }
noncomputable def body132 : Code := match Try.f132.body with | some c => c | none => .skip
noncomputable def fn132 : Fun := { body := body132, ntmps := 34, results := [], types := [], hint := hint132, keep := .keep }
def E132 : Env := { T := tiOf, hint := hint132 }
def hint133 : Hint := { eqs := [12] }
noncomputable def body133 : Code := match Try.f133.body with | some c => c | none => .skip
noncomputable def fn133 : Fun := { body := body133, ntmps := 26, results := [.tmp 4], types := [4], hint := hint133, keep := .keep }
def E133 : Env := { T := tiOf, hint := hint133 }
def hint134 : Hint := { eqs := [10], reH := [2] }
noncomputable def body134 : Code := match Try.f134.body with | some c => c | none => .skip
noncomputable def fn134 : Fun := { body := body134, ntmps := 16, results := [], types := [], hint := hint134, keep := .keep }
def E134 : Env := { T := tiOf, hint := hint134 }
def hint135 : Hint := { esc := [7], eqs := [7] }
noncomputable def body135 : Code := match Try.f135.body with | some c => c | none => .skip
noncomputable def fn135 : Fun := { body := body135, ntmps := 8, results := [.tmp 2], types := [39], hint := hint135, keep := .keep }
def E135 : Env := { T := tiOf, hint := hint135 }
def hint136 : Hint := { eqs := [8] }
noncomputable def body136 : Code := match Try.f136.body with | some c => c | none => .skip
noncomputable def fn136 : Fun := { body := body136, ntmps := 9, results := [.tmp 2], types := [41], hint := hint136, keep := .clip }
def E136 : Env := { T := tiOf, hint := hint136 }
def fnTab : List (Nat × Hint × Keep) := [(8, hint8, .drop), (13, hint13, .drop), (32, hint32, .drop), (33, hint33, .drop), (34, hint34, .drop), (36, hint36, .drop), (39, hint39, .drop), (42, hint42, .drop), (44, hint44, .keep), (45, hint45, .drop), (46, hint46, .drop), (47, hint47, .keep), (51, hint51, .drop), (52, hint52, .drop), (53, hint53, .drop), (55, hint55, .clip), (58, hint58, .drop), (59, hint59, .drop), (80, hint80, .drop), (82, hint82, .keep), (86, hint86, .keep), (88, hint88, .keep), (89, hint89, .keep), (90, hint90, .drop), (92, hint92, .drop), (93, hint93, .drop), (96, hint96, .drop), (97, hint97, .drop), (98, hint98, .drop), (99, hint99, .drop), (107, hint107, .clip), (129, hint129, .keep), (130, hint130, .keep), (131, hint131, .keep), (132, hint132, .keep), (133, hint133, .keep), (134, hint134, .keep), (135, hint135, .keep), (136, hint136, .clip)]
noncomputable def fnOf (f : FuncId) : Option Fun := match lkN f fnTab with
  | some (h, kp) => match Try.checked.prog.funcs[f]? with
    | some F => bif F.name == "runtime.NumGoroutine" then none else funOf F h kp
    | none => none
  | none => none
def extRel (f : FuncId) (args : List AVal) (H : List HObj) (r : AVal) (H' : List HObj) : Prop :=
  f = 85 ∧ ∃ (q id : Nat) (L : List (ByteArray × Int)), args = [.func 128 [.href q 0]] ∧ H[q]? = some (.arr [.map id]) ∧ H[id]? = some (.map (entL AVal.str (AVal.int .i64) L)) ∧ L.length * 16 ≤ 140737488355328 ∧ (∀ p ∈ L, p.1.size ≤ 9223372036854775807) ∧ r = encL 1 AVal.str bE (isort (L.map (·.1))) ∧ H' = H
noncomputable def G : Prog := { T := tiOf, fns := fnOf, ext := extRel }
def Cn (n : Nat) : FuncId → List AVal → List HObj → AVal → List HObj → Prop := fun g args H r H' => CallIn (Run G n g) args H r H'
theorem cnR {n : Nat} {f : FuncId} {args : List AVal} {H H' : List HObj} {r : AVal} (h : Run G n f args H r H') : Cn n f args H r H' := .inr h
theorem cnL {n : Nat} {f : FuncId} {args : List AVal} {H H0 : List HObj} {r : AVal} (h1 : args.all noRefArg = true) (h2 : noRefAll r = true) (h : Run G n f args [] r H0) : Cn n f args H r H := .inl ⟨h1, h2, rfl, _, h⟩
theorem run_of {n : Nat} {f : FuncId} {fn : Fun} {args : List AVal} {H : List HObj} {r : AVal × List HObj} (hf : fnOf f = some fn) (h : Den (Cn n) (enter { T := tiOf, hint := fn.hint } n fn args H) r) : Run G (n + 1) f args H r.1 r.2 := .inr ⟨fn, hf, h⟩
theorem sorted_ok {n q id : Nat} {H : List HObj} {L : List (ByteArray × Int)} {b : List ByteArray} (h1 : H[q]? = some (.arr [.map id])) (h2 : H[id]? = some (.map (entL AVal.str (AVal.int .i64) L))) (h : sortedKeys n L = some b) : Run G n 85 [.func 128 [.href q 0]] H (encL 1 AVal.str bE b) H := by
  cases n with
  | zero => cases h
  | succ n =>
    unfold sortedKeys at h
    cases hc : (decide (L.length * 16 ≤ 140737488355328) && L.all (fun p => decide (p.1.size ≤ 9223372036854775807))) with
    | false => rw [hc] at h; cases h
    | true =>
      rw [hc] at h; cases h
      simp only [Bool.and_eq_true, decide_eq_true_eq, List.all_eq_true] at hc
      exact .inl ⟨rfl, q, id, L, rfl, h1, h2, hc.1, hc.2, rfl, rfl⟩

end Go.Proofs.Ytkignmhjbjgkoaa
