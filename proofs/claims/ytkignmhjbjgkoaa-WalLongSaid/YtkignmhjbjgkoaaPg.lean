/- PRINTED: the functions of the program, as the machine needs them. -/
import Derived.Test.YtkignmhjbjgkoaaAmTab
import Derived.Test.YtkignmhjbjgkoaaAmX
set_option linter.unusedVariables false
set_option maxRecDepth 100000
set_option maxHeartbeats 0
namespace Go.Proofs.Ytkignmhjbjgkoaa
open Go Go.AM
def hint16 : Hint := { esc := [18], eqs := [43, 45, 68], dead := [(3, [6, 8, 15, 16, 17, 18, 19, 22, 23, 24, 25, 26, 27, 28]), (7, [0, 20, 21, 22]), (11, [2, 29, 30, 31, 32, 33, 34, 35, 36, 37, 40, 41, 42, 43, 44, 45, 46]), (14, [38, 39, 40])], reH := [2, 6], joins := [7, 14] }
noncomputable def body16 : Code := match Try.f16.body with | some c => c | none => .skip
noncomputable def fn16 : Fun := { body := body16, ntmps := 105, results := [.tmp 6], types := [4], hint := hint16, keep := .drop }
def E16 : Env := { T := tiOf, hint := hint16 }
def hint17 : Hint := { eqs := [55] }
noncomputable def body17 : Code := match Try.f17.body with | some c => c | none => .skip
noncomputable def fn17 : Fun := { body := body17, ntmps := 90, results := [.tmp 0], types := [4], hint := hint17, keep := .drop }
def E17 : Env := { T := tiOf, hint := hint17 }
def hint18 : Hint := { esc := [4, 5], eqs := [15], dead := [(6, [0, 2, 3, 8, 9]), (8, [0, 2, 3, 8, 9])], rid := [(6, 1800)], joins := [8] }
noncomputable def body18 : Code := match Try.f18.body with | some c => c | none => .skip
noncomputable def fn18 : Fun := { body := body18, ntmps := 19, results := [.tmp 2, .tmp 3], types := [23, 3], hint := hint18, keep := .drop }
def E18 : Env := { T := tiOf, hint := hint18 }
def ER18 : Env := { T := tiOf, hint := hint18, rnd := true }
noncomputable def rb1800 : Code := subc body18 [1, 1, 1, 0, 1, 0, 1]
noncomputable def L1800 : LoopC := ⟨1800, [10, 11], subc body18 [1, 1, 1, 0, 1, 0, 0], rb1800⟩
def hint20 : Hint := { }
noncomputable def body20 : Code := match Try.f20.body with | some c => c | none => .skip
noncomputable def fn20 : Fun := { body := body20, ntmps := 18, results := [.tmp 2], types := [9], hint := hint20, keep := .drop }
def E20 : Env := { T := tiOf, hint := hint20 }
def hint22 : Hint := { dead := [(4, [4, 5, 6, 7, 8, 9, 10, 11, 14, 15, 16, 17, 18, 19, 20, 21, 22, 23, 24, 25])] }
noncomputable def body22 : Code := match Try.f22.body with | some c => c | none => .skip
noncomputable def fn22 : Fun := { body := body22, ntmps := 26, results := [.tmp 4], types := [4], hint := hint22, keep := .drop }
def E22 : Env := { T := tiOf, hint := hint22 }
def hint27 : Hint := { esc := [2, 9, 57], eqs := [85], dead := [(7, [0, 5, 6, 8, 15, 16, 17, 18, 21, 22, 23, 28, 29, 30, 31, 32, 33, 35]), (12, [25, 26, 27, 28]), (14, [11, 39, 40, 41, 42, 43, 44, 45, 46, 47, 48, 49, 51]), (20, [36, 37, 38, 39])], joins := [12, 20], bl := [(70, 98, 5)], bld := [(98, 5)] }
noncomputable def body27 : Code := match Try.f27.body with | some c => c | none => .skip
noncomputable def fn27 : Fun := { body := body27, ntmps := 88, results := [.cell 4 45, .tmp 5], types := [45, 48], hint := hint27, keep := .drop }
def E27 : Env := { T := tiOf, hint := hint27 }
def hint29 : Hint := { dead := [(5, [0, 1, 2, 4, 6, 7, 8, 9, 10, 11, 12, 13, 14, 15, 16, 17, 18, 19, 20, 21, 22, 23, 24, 25, 26, 30, 31, 32, 33, 34, 35, 36, 37, 38, 39, 40, 41, 42, 43, 44, 45, 46]), (14, [27, 28, 29, 30])], joins := [14] }
noncomputable def body29 : Code := match Try.f29.body with | some c => c | none => .skip
noncomputable def fn29 : Fun := { body := body29, ntmps := 49, results := [.tmp 2], types := [48], hint := hint29, keep := .drop }
def E29 : Env := { T := tiOf, hint := hint29 }
def hint34 : Hint := { }
noncomputable def body34 : Code := match Try.f34.body with | some c => c | none => .skip
noncomputable def fn34 : Fun := { body := body34, ntmps := 23, results := [.tmp 4, .tmp 5], types := [9, 48], hint := hint34, keep := .drop }
def E34 : Env := { T := tiOf, hint := hint34 }
def hint36 : Hint := { }
noncomputable def body36 : Code := match Try.f36.body with | some c => c | none => .skip
noncomputable def fn36 : Fun := { body := body36, ntmps := 12, results := [.tmp 2], types := [48], hint := hint36, keep := .drop }
def E36 : Env := { T := tiOf, hint := hint36 }
def hint45 : Hint := { }
noncomputable def body45 : Code := match Try.f45.body with | some c => c | none => .skip
noncomputable def fn45 : Fun := { body := body45, ntmps := 36, results := [.cell 4 43, .tmp 5], types := [43, 48], hint := hint45, keep := .drop }
def E45 : Env := { T := tiOf, hint := hint45 }
def hint46 : Hint := { esc := [26], eqs := [39, 50, 69, 71, 74], dead := [(7, [0, 3, 5, 12, 13, 14, 15, 16, 17, 18, 20, 21, 22, 23, 24, 25, 26, 27, 52]), (12, [8, 9, 31, 32, 33, 34, 35, 36, 37, 38, 39, 40, 41, 42, 43, 44, 45, 46, 47, 48, 49, 50, 51]), (13, [28, 29, 30, 31]), (14, [11, 53, 54, 55, 59, 60, 61, 62, 63, 64, 65, 66, 67, 68, 69, 70, 71, 72, 73, 74, 75, 76]), (18, [4, 7, 56, 57, 58, 59])], reH := [6, 11], joins := [12, 13, 18] }
noncomputable def body46 : Code := match Try.f46.body with | some c => c | none => .skip
noncomputable def fn46 : Fun := { body := body46, ntmps := 82, results := [.cell 2 43, .tmp 3], types := [43, 48], hint := hint46, keep := .drop }
def E46 : Env := { T := tiOf, hint := hint46 }
def hint55 : Hint := { }
noncomputable def body55 : Code := match Try.f55.body with | some c => c | none => .skip
noncomputable def fn55 : Fun := { body := body55, ntmps := 2, results := [.cell 0 43], types := [43], hint := hint55, keep := .clip }
def E55 : Env := { T := tiOf, hint := hint55 }
def hint57 : Hint := { gh := [(1, [.frz 3])] }
noncomputable def body57 : Code := match Try.f57.body with | some c => c | none => .skip
noncomputable def fn57 : Fun := { body := body57, ntmps := 32, results := [.cell 4 45, .tmp 5], types := [45, 48], hint := hint57, keep := .drop }
def E57 : Env := { T := tiOf, hint := hint57 }
def hint58 : Hint := { eqs := [27, 55] }
noncomputable def body58 : Code := match Try.f58.body with | some c => c | none => .skip
noncomputable def fn58 : Fun := { body := body58, ntmps := 62, results := [.cell 4 43, .tmp 5], types := [43, 48], hint := hint58, keep := .drop }
def E58 : Env := { T := tiOf, hint := hint58 }
def hint59 : Hint := { }
noncomputable def body59 : Code := match Try.f59.body with | some c => c | none => .skip
noncomputable def fn59 : Fun := { body := body59, ntmps := 47, results := [.cell 6 43, .tmp 7], types := [43, 48], hint := hint59, keep := .drop }
def E59 : Env := { T := tiOf, hint := hint59 }
def hint60 : Hint := { gh := [(1, [.frz 3]), (6, [.frz 9])] }
noncomputable def body60 : Code := match Try.f60.body with | some c => c | none => .skip
noncomputable def fn60 : Fun := { body := body60, ntmps := 54, results := [.cell 4 45, .tmp 5], types := [45, 48], hint := hint60, keep := .drop }
def E60 : Env := { T := tiOf, hint := hint60 }
def hint61 : Hint := { esc := [1] }
noncomputable def body61 : Code := match Try.f61.body with | some c => c | none => .skip
noncomputable def fn61 : Fun := { body := body61, ntmps := 4, results := [.tmp 2], types := [89], hint := hint61, keep := .keep }
def E61 : Env := { T := tiOf, hint := hint61 }
def hint63 : Hint := { eqs := [16], nils := [115] }
noncomputable def body63 : Code := match Try.f63.body with | some c => c | none => .skip
noncomputable def fn63 : Fun := { body := body63, ntmps := 18, results := [.tmp 4, .tmp 5], types := [9, 48], hint := hint63, keep := .drop }
def E63 : Env := { T := tiOf, hint := hint63 }
def hint64 : Hint := { }
noncomputable def body64 : Code := match Try.f64.body with | some c => c | none => .skip
noncomputable def fn64 : Fun := { body := body64, ntmps := 8, results := [.tmp 2], types := [9], hint := hint64, keep := .drop }
def E64 : Env := { T := tiOf, hint := hint64 }
def hint71 : Hint := { dead := [(2, [0, 1, 5, 7, 8, 9, 13, 14, 15, 16, 17, 18, 19, 20, 21, 22, 23, 26, 27])] }
noncomputable def body71 : Code := match Try.f71.body with | some c => c | none => .skip
noncomputable def fn71 : Fun := { body := body71, ntmps := 29, results := [.cell 4 43, .tmp 5], types := [43, 48], hint := hint71, keep := .keep }
def E71 : Env := { T := tiOf, hint := hint71 }
def hint72 : Hint := { bs := [(73, 98, 5)] }
noncomputable def body72 : Code := match Try.f72.body with | some c => c | none => .skip
noncomputable def fn72 : Fun := { body := body72, ntmps := 13, results := [.cell 4 43, .tmp 5], types := [43, 48], hint := hint72, keep := .keep }
def E72 : Env := { T := tiOf, hint := hint72 }
def hint74 : Hint := { }
noncomputable def body74 : Code := match Try.f74.body with | some c => c | none => .skip
noncomputable def fn74 : Fun := { body := body74, ntmps := 11, results := [.cell 3 43, .tmp 4], types := [43, 48], hint := hint74, keep := .keep }
def E74 : Env := { T := tiOf, hint := hint74 }
def hint75 : Hint := { eqs := [8] }
noncomputable def body75 : Code := match Try.f75.body with | some c => c | none => .skip
noncomputable def fn75 : Fun := { body := body75, ntmps := 9, results := [.tmp 2], types := [23], hint := hint75, keep := .clip }
def E75 : Env := { T := tiOf, hint := hint75 }
def hint78 : Hint := { }
noncomputable def body78 : Code := match Try.f78.body with | some c => c | none => .skip
noncomputable def fn78 : Fun := { body := body78, ntmps := 11, results := [.tmp 4, .tmp 5], types := [9, 4], hint := hint78, keep := .drop }
def E78 : Env := { T := tiOf, hint := hint78 }
def hint80 : Hint := { eqs := [20] }
noncomputable def body80 : Code := match Try.f80.body with | some c => c | none => .skip
noncomputable def fn80 : Fun := { body := body80, ntmps := 26, results := [.tmp 4, .tmp 5], types := [3, 48], hint := hint80, keep := .drop }
def E80 : Env := { T := tiOf, hint := hint80 }
def hint82 : Hint := { dead := [(4, [0, 3, 5, 12, 13, 14, 15, 16, 17, 18, 19, 20, 21, 22, 23, 24, 25, 26, 28, 32, 33, 34, 35, 36, 37, 38, 39, 40, 41, 42, 43, 44, 45, 46, 47, 48, 49, 50, 51, 53]), (9, [29, 30, 31, 32]), (13, [1, 7, 9, 10, 11, 54, 55, 56, 57, 58, 59, 60, 62, 66, 67, 68, 69, 70, 71, 72, 73, 74, 75, 76, 77, 78, 79, 80, 81, 82, 83, 84, 86, 87, 88, 89, 90, 91]), (20, [63, 64, 65, 66])], joins := [9, 20] }
noncomputable def body82 : Code := match Try.f82.body with | some c => c | none => .skip
noncomputable def fn82 : Fun := { body := body82, ntmps := 93, results := [.cell 2 118, .tmp 3], types := [118, 4], hint := hint82, keep := .keep }
def E82 : Env := { T := tiOf, hint := hint82 }
def hint86 : Hint := { esc := [1] }
noncomputable def body86 : Code := match Try.f86.body with | some c => c | none => .skip
noncomputable def fn86 : Fun := { body := body86, ntmps := 4, results := [.tmp 2], types := [125], hint := hint86, keep := .keep }
def E86 : Env := { T := tiOf, hint := hint86 }
def hint88 : Hint := { esc := [11], eqs := [59], dead := [(3, [0, 3, 5, 6, 7, 8, 9, 10, 11, 12, 13, 17, 18, 19, 20, 21, 22, 23, 24, 25, 26, 27, 28, 29, 30, 31, 32, 33, 34, 35, 36, 37, 38, 39, 40, 42, 43, 44, 45, 46, 47, 48, 49, 50, 51, 52, 53, 54, 55, 56, 57, 58, 59, 60, 62, 63, 64, 65, 66, 67, 68, 69, 70, 71, 72, 73]), (12, [1, 14, 15, 16, 17])], reH := [2, 10, 11], joins := [12] }
noncomputable def body88 : Code := match Try.f88.body with | some c => c | none => .skip
noncomputable def fn88 : Fun := { body := body88, ntmps := 75, results := [.cell 2 118, .tmp 3], types := [118, 4], hint := hint88, keep := .keep }
def E88 : Env := { T := tiOf, hint := hint88 }
def hint90 : Hint := { }
noncomputable def body90 : Code := match Try.f90.body with | some c => c | none => .skip
noncomputable def fn90 : Fun := { body := body90, ntmps := 15, results := [.cell 2 132, .tmp 3], types := [132, 4], hint := hint90, keep := .drop }
def E90 : Env := { T := tiOf, hint := hint90 }
def hint92 : Hint := { dead := [(5, [0, 1, 2, 5, 6, 7, 8, 10, 11, 12, 13, 14, 15, 16])], joins := [5] }
noncomputable def body92 : Code := match Try.f92.body with | some c => c | none => .skip
noncomputable def fn92 : Fun := { body := body92, ntmps := 18, results := [.cell 4 43, .tmp 5], types := [43, 48], hint := hint92, keep := .drop }
def E92 : Env := { T := tiOf, hint := hint92 }
def hint93 : Hint := { reH := [3], eqr := true }
noncomputable def body93 : Code := match Try.f93.body with | some c => c | none => .skip
noncomputable def fn93 : Fun := { body := body93, ntmps := 17, results := [.cell 6 43], types := [43], hint := hint93, keep := .drop }
def E93 : Env := { T := tiOf, hint := hint93 }
def hint95 : Hint := { }
noncomputable def body95 : Code := match Try.f95.body with | some c => c | none => .skip
noncomputable def fn95 : Fun := { body := body95, ntmps := 18, results := [.tmp 4], types := [4], hint := hint95, keep := .drop }
def E95 : Env := { T := tiOf, hint := hint95 }
def hint96 : Hint := { dead := [(4, [2, 4, 5, 6, 7, 8, 9, 10, 11, 12, 13, 14, 36, 37, 38, 39, 40, 41, 42, 43, 44, 45, 46, 47, 48, 49, 50, 51, 52, 53, 54, 55, 56, 57, 58]), (8, [3, 17, 18, 19, 20, 21, 22, 23, 24, 25, 26, 27, 28, 29, 30, 31, 32, 33, 34, 35])], joins := [8] }
noncomputable def body96 : Code := match Try.f96.body with | some c => c | none => .skip
noncomputable def fn96 : Fun := { body := body96, ntmps := 59, results := [.tmp 2], types := [4], hint := hint96, keep := .drop }
def E96 : Env := { T := tiOf, hint := hint96 }
def hint97 : Hint := { eqs := [10] }
noncomputable def body97 : Code := match Try.f97.body with | some c => c | none => .skip
noncomputable def fn97 : Fun := { body := body97, ntmps := 13, results := [.cell 4 43], types := [43], hint := hint97, keep := .drop }
def E97 : Env := { T := tiOf, hint := hint97 }
def hint99 : Hint := { }
noncomputable def body99 : Code := match Try.f99.body with | some c => c | none => .skip
noncomputable def fn99 : Fun := { body := body99, ntmps := 54, results := [.cell 6 43, .tmp 7], types := [43, 48], hint := hint99, keep := .drop }
def E99 : Env := { T := tiOf, hint := hint99 }
def hint105 : Hint := { }
noncomputable def body105 : Code := match Try.f105.body with | some c => c | none => .skip
noncomputable def fn105 : Fun := { body := body105, ntmps := 10, results := [.cell 3 43, .tmp 4], types := [43, 48], hint := hint105, keep := .drop }
def E105 : Env := { T := tiOf, hint := hint105 }
def hint106 : Hint := { }
noncomputable def body106 : Code := match Try.f106.body with | some c => c | none => .skip
noncomputable def fn106 : Fun := { body := body106, ntmps := 13, results := [.cell 4 45, .tmp 5], types := [45, 48], hint := hint106, keep := .drop }
def E106 : Env := { T := tiOf, hint := hint106 }
def hint107 : Hint := { eqs := [8] }
noncomputable def body107 : Code := match Try.f107.body with | some c => c | none => .skip
noncomputable def fn107 : Fun := { body := body107, ntmps := 9, results := [.tmp 2], types := [39], hint := hint107, keep := .clip }
def E107 : Env := { T := tiOf, hint := hint107 }
def hint108 : Hint := { }
noncomputable def body108 : Code := match Try.f108.body with | some c => c | none => .skip
noncomputable def fn108 : Fun := { body := body108, ntmps := 12, results := [.cell 4 43, .tmp 5], types := [43, 48], hint := hint108, keep := .drop }
def E108 : Env := { T := tiOf, hint := hint108 }
def hint109 : Hint := { }
noncomputable def body109 : Code := match Try.f109.body with | some c => c | none => .skip
noncomputable def fn109 : Fun := { body := body109, ntmps := 10, results := [.cell 3 43, .tmp 4], types := [43, 48], hint := hint109, keep := .drop }
def E109 : Env := { T := tiOf, hint := hint109 }
def hint110 : Hint := { dead := [(1, [4, 5, 6, 7, 8, 9, 10, 11, 12, 13, 14, 15, 16, 17, 18, 19, 20, 21, 22, 23, 24, 25, 26, 27, 28, 29, 30, 31, 32, 33, 34, 35, 36, 37, 38, 39, 40, 41, 42, 43, 44, 45, 46, 47, 48, 49, 50, 51, 52, 53, 54, 55, 56, 57])] }
noncomputable def body110 : Code := match Try.f110.body with | some c => c | none => .skip
noncomputable def fn110 : Fun := { body := body110, ntmps := 58, results := [], types := [], hint := hint110, keep := .keep }
def E110 : Env := { T := tiOf, hint := hint110 }
def hint111 : Hint := { }
noncomputable def body111 : Code := match Try.f111.body with | some c => c | none => .skip
noncomputable def fn111 : Fun := { body := body111, ntmps := 22, results := [.tmp 2, .tmp 3, .tmp 4], types := [3, 3, 48], hint := hint111, keep := .drop }
def E111 : Env := { T := tiOf, hint := hint111 }
def hint112 : Hint := { }
noncomputable def body112 : Code := match Try.f112.body with | some c => c | none => .skip
noncomputable def fn112 : Fun := { body := body112, ntmps := 22, results := [.tmp 2, .tmp 3], types := [9, 48], hint := hint112, keep := .drop }
def E112 : Env := { T := tiOf, hint := hint112 }
def hint115 : Hint := { eqs := [13, 20], dead := [(1, [4, 5, 6, 7, 8, 9, 10, 11, 12, 13, 14, 15]), (4, [5, 6])], joins := [4] }
noncomputable def body115 : Code := match Try.f115.body with | some c => c | none => .skip
noncomputable def fn115 : Fun := { body := body115, ntmps := 21, results := [.tmp 4], types := [37], hint := hint115, keep := .drop }
def E115 : Env := { T := tiOf, hint := hint115 }
def hint116 : Hint := { eqs := [14, 15] }
noncomputable def body116 : Code := match Try.f116.body with | some c => c | none => .skip
noncomputable def fn116 : Fun := { body := body116, ntmps := 16, results := [.tmp 2], types := [9], hint := hint116, keep := .drop }
def E116 : Env := { T := tiOf, hint := hint116 }
def hint117 : Hint := { }
noncomputable def body117 : Code := match Try.f117.body with | some c => c | none => .skip
noncomputable def fn117 : Fun := { body := body117, ntmps := 5, results := [.tmp 2], types := [151], hint := hint117, keep := .drop }
def E117 : Env := { T := tiOf, hint := hint117 }
def hint123 : Hint := { }
noncomputable def body123 : Code := match Try.f123.body with | some c => c | none => .skip
noncomputable def fn123 : Fun := { body := body123, ntmps := 15, results := [.tmp 4, .tmp 5], types := [9, 4], hint := hint123, keep := .drop }
def E123 : Env := { T := tiOf, hint := hint123 }
def hint129 : Hint := { eqs := [12, 46] }
noncomputable def body129 : Code := match Try.f129.body with | some c => c | none => .skip
noncomputable def fn129 : Fun := { body := body129, ntmps := 49, results := [.tmp 4], types := [4], hint := hint129, keep := .keep }
def E129 : Env := { T := tiOf, hint := hint129 }
def hint130 : Hint := { reH := [2] }
noncomputable def body130 : Code := match Try.f130.body with | some c => c | none => .skip
noncomputable def fn130 : Fun := { body := body130, ntmps := 15, results := [], types := [], hint := hint130, keep := .keep }
def E130 : Env := { T := tiOf, hint := hint130 }
def hint131 : Hint := { eqs := [12] }
noncomputable def body131 : Code := match Try.f131.body with | some c => c | none => .skip
noncomputable def fn131 : Fun := { body := body131, ntmps := 33, results := [.tmp 4], types := [4], hint := hint131, keep := .keep }
def E131 : Env := { T := tiOf, hint := hint131 }
def hint132 : Hint := { eqs := [12, 24], dead := [(4, [0, 1, 4, 5, 7, 8, 9, 10, 11, 12, 13, 14, 15, 16, 17, 18, 19])], reH := [4, 6], joins := [4] }
noncomputable def body132 : Code := match Try.f132.body with | some c => c | none => .skip
noncomputable def fn132 : Fun := { body := body132, ntmps := 34, results := [], types := [], hint := hint132, keep := .keep }
def E132 : Env := { T := tiOf, hint := hint132 }
def hint133 : Hint := { eqs := [12] }
noncomputable def body133 : Code := match Try.f133.body with | some c => c | none => .skip
noncomputable def fn133 : Fun := { body := body133, ntmps := 26, results := [.tmp 4], types := [4], hint := hint133, keep := .keep }
def E133 : Env := { T := tiOf, hint := hint133 }
def hint134 : Hint := { eqs := [10], reH := [2] }
noncomputable def body134 : Code := match Try.f134.body with | some c => c | none => .skip
noncomputable def fn134 : Fun := { body := body134, ntmps := 16, results := [], types := [], hint := hint134, keep := .keep }
def E134 : Env := { T := tiOf, hint := hint134 }
def hint135 : Hint := { esc := [7], eqs := [7] }
noncomputable def body135 : Code := match Try.f135.body with | some c => c | none => .skip
noncomputable def fn135 : Fun := { body := body135, ntmps := 8, results := [.tmp 2], types := [39], hint := hint135, keep := .keep }
def E135 : Env := { T := tiOf, hint := hint135 }
def hint136 : Hint := { eqs := [8] }
noncomputable def body136 : Code := match Try.f136.body with | some c => c | none => .skip
noncomputable def fn136 : Fun := { body := body136, ntmps := 9, results := [.tmp 2], types := [41], hint := hint136, keep := .clip }
def E136 : Env := { T := tiOf, hint := hint136 }
def hint139 : Hint := { esc := [2, 3, 4, 5], dead := [(5, [0, 8, 9]), (10, [0, 5, 8, 9])], rid := [(5, 13900)], joins := [10] }
noncomputable def body139 : Code := match Try.f139.body with | some c => c | none => .skip
noncomputable def fn139 : Fun := { body := body139, ntmps := 39, results := [.cell 2 149, .cell 3 3, .cell 4 48], types := [149, 3, 48], hint := hint139, keep := .drop }
def E139 : Env := { T := tiOf, hint := hint139 }
def ER139 : Env := { T := tiOf, hint := hint139, rnd := true }
noncomputable def rb13900 : Code := subc body139 [1, 1, 0, 1, 0, 1]
noncomputable def L13900 : LoopC := ⟨13900, [10, 11], subc body139 [1, 1, 0, 1, 0, 0], rb13900⟩
def hint141 : Hint := { }
noncomputable def body141 : Code := match Try.f141.body with | some c => c | none => .skip
noncomputable def fn141 : Fun := { body := body141, ntmps := 10, results := [.tmp 4], types := [151], hint := hint141, keep := .drop }
def E141 : Env := { T := tiOf, hint := hint141 }
def hint149 : Hint := { esc := [1] }
noncomputable def body149 : Code := match Try.f149.body with | some c => c | none => .skip
noncomputable def fn149 : Fun := { body := body149, ntmps := 4, results := [.tmp 2], types := [175], hint := hint149, keep := .keep }
def E149 : Env := { T := tiOf, hint := hint149 }
def hint150 : Hint := { esc := [5], eqs := [34, 41], dead := [(3, [4, 6, 9, 10, 11, 12, 13, 14, 15, 16]), (7, [8, 9]), (8, [17, 18, 19, 20, 21, 22, 23, 24, 25, 26, 27, 28, 29, 30, 31, 32, 33, 34, 35, 36, 37, 38, 39, 40, 41, 42])], reH := [2, 6], joins := [7] }
noncomputable def body150 : Code := match Try.f150.body with | some c => c | none => .skip
noncomputable def fn150 : Fun := { body := body150, ntmps := 44, results := [.tmp 4], types := [151], hint := hint150, keep := .drop }
def E150 : Env := { T := tiOf, hint := hint150 }
def hint163 : Hint := { dead := [(1, [4, 5, 6, 7, 8, 9, 10, 11, 12, 13, 14, 15, 16, 17, 18, 19, 20, 21, 22, 23, 24, 25, 26])] }
noncomputable def body163 : Code := match Try.f163.body with | some c => c | none => .skip
noncomputable def fn163 : Fun := { body := body163, ntmps := 27, results := [], types := [], hint := hint163, keep := .keep }
def E163 : Env := { T := tiOf, hint := hint163 }
def hint164 : Hint := { dead := [(2, [1, 4, 16]), (6, [7, 8, 9, 10, 11, 12, 13, 14, 15])], joins := [6] }
noncomputable def body164 : Code := match Try.f164.body with | some c => c | none => .skip
noncomputable def fn164 : Fun := { body := body164, ntmps := 18, results := [.tmp 4], types := [151], hint := hint164, keep := .drop }
def E164 : Env := { T := tiOf, hint := hint164 }
def fnTab : List (Nat × Hint × Keep) := [(16, hint16, .drop), (17, hint17, .drop), (18, hint18, .drop), (20, hint20, .drop), (22, hint22, .drop), (27, hint27, .drop), (29, hint29, .drop), (34, hint34, .drop), (36, hint36, .drop), (45, hint45, .drop), (46, hint46, .drop), (55, hint55, .clip), (57, hint57, .drop), (58, hint58, .drop), (59, hint59, .drop), (60, hint60, .drop), (61, hint61, .keep), (63, hint63, .drop), (64, hint64, .drop), (71, hint71, .keep), (72, hint72, .keep), (74, hint74, .keep), (75, hint75, .clip), (78, hint78, .drop), (80, hint80, .drop), (82, hint82, .keep), (86, hint86, .keep), (88, hint88, .keep), (90, hint90, .drop), (92, hint92, .drop), (93, hint93, .drop), (95, hint95, .drop), (96, hint96, .drop), (97, hint97, .drop), (99, hint99, .drop), (105, hint105, .drop), (106, hint106, .drop), (107, hint107, .clip), (108, hint108, .drop), (109, hint109, .drop), (110, hint110, .keep), (111, hint111, .drop), (112, hint112, .drop), (115, hint115, .drop), (116, hint116, .drop), (117, hint117, .drop), (123, hint123, .drop), (129, hint129, .keep), (130, hint130, .keep), (131, hint131, .keep), (132, hint132, .keep), (133, hint133, .keep), (134, hint134, .keep), (135, hint135, .keep), (136, hint136, .clip), (139, hint139, .drop), (141, hint141, .drop), (149, hint149, .keep), (150, hint150, .drop), (163, hint163, .keep), (164, hint164, .drop)]
def rndTab : List (Nat × Hint × Keep) := [(1800, hint18, .keep), (13900, hint139, .keep)]
noncomputable def fnOf (f : FuncId) : Option Fun := match lkN f fnTab with
  | some (h, kp) => match Try.checked.prog.funcs[f]? with
    | some F => bif F.name == "runtime.NumGoroutine" then none else funOf F h kp
    | none => none
  | none => none
def relSorted (f : FuncId) (args : List AVal) (H : List HObj) (r : AVal) (H' : List HObj) : Prop :=
  f = 85 ∧ ∃ (q id : Nat) (L : List (ByteArray × Int)), args = [.func 128 [.href q 0]] ∧ H[q]? = some (.arr [.map id]) ∧ H[id]? = some (.map (entL AVal.str (AVal.int .i64) L)) ∧ L.length * 16 ≤ 140737488355328 ∧ (∀ p ∈ L, p.1.size ≤ 9223372036854775807) ∧ r = encL 1 AVal.str bE (isort (L.map (·.1))) ∧ H' = H
def extRel (f : FuncId) (args : List AVal) (H : List HObj) (r : AVal) (H' : List HObj) : Prop :=
  relSorted f args H r H' ∨ (f = 69 ∧ relWrite 98 5 args H r H') ∨ (f = 70 ∧ relLen 98 5 args H r H') ∨ (f = 73 ∧ relString 98 5 args H r H')
noncomputable def G : Prog := { T := tiOf, fns := fnOf, ext := extRel, rnds := fun i => lkN i rndTab }
def Cn (n : Nat) : FuncId → List AVal → List HObj → AVal → List HObj → Prop := fun g args H r H' => CallIn (Run G n g) args H r H'
theorem cnR {n : Nat} {f : FuncId} {args : List AVal} {H H' : List HObj} {r : AVal} (h : Run G n f args H r H') : Cn n f args H r H' := .inr h
theorem cnL {n : Nat} {f : FuncId} {args : List AVal} {H H0 : List HObj} {r : AVal} (h1 : args.all noRefArg = true) (h2 : noRefAll r = true) (h : Run G n f args [] r H0) : Cn n f args H r H := .inl ⟨h1, h2, rfl, _, h⟩
theorem run_of {n : Nat} {f : FuncId} {fn : Fun} {args : List AVal} {H : List HObj} {r : AVal × List HObj} (hf : fnOf f = some fn) (h : Den (Cn n) (enter { T := tiOf, hint := fn.hint } n fn args H) r) : Run G (n + 1) f args H r.1 r.2 := .inr (.inl ⟨fn, hf, h⟩)
theorem rnd_of {n i id : Nat} {L : LoopC} {ts args : List AVal} {h : Hint} {kp : Keep} {H : List HObj} {r : AVal × List HObj} (hH : H[id]? = some (.loop L ts .ready)) (hi : L.id = i) (hl : args.length = L.params.length) (hr : lkN i rndTab = some (h, kp)) (hd : Den (Cn n) (enterRound { T := tiOf, hint := h, rnd := true } n L kp id ts args H) r) : Run G (n + 1) (rnd0 + i) (.yld id :: args) H r.1 r.2 :=
  .inr (.inr ⟨i, id, args, L, ts, h, kp, rfl, rfl, hH, hi, hl, hr, hd⟩)
theorem sorted_ok {n q id : Nat} {H : List HObj} {L : List (ByteArray × Int)} {b : List ByteArray} (h1 : H[q]? = some (.arr [.map id])) (h2 : H[id]? = some (.map (entL AVal.str (AVal.int .i64) L))) (h : sortedKeys n L = some b) : Run G n 85 [.func 128 [.href q 0]] H (encL 1 AVal.str bE b) H := by
  cases n with
  | zero => cases h
  | succ n =>
    unfold sortedKeys at h
    cases hc : (decide (L.length * 16 ≤ 140737488355328) && L.all (fun p => decide (p.1.size ≤ 9223372036854775807))) with
    | false => rw [hc] at h; cases h
    | true =>
      rw [hc] at h; cases h
      simp only [Bool.and_eq_true, decide_eq_true_eq, List.all_eq_true] at hc
      exact .inl (.inl ⟨rfl, q, id, L, rfl, h1, h2, hc.1, hc.2, rfl, rfl⟩)
theorem bwrite_ok {n id : Nat} {H : List HObj} {b s c : ByteArray} (h1 : H[id]? = some (.bld 98 5 b)) (h : bWrite n b s = some c) : Run G n 69 [.href id 0, .str s] H (.tuple [.int .i64 s.size, .nilIface]) (H.set id (.bld 98 5 c)) := by
  cases n with
  | zero => cases h
  | succ n =>
    unfold bWrite at h
    cases hc : decide (b.size + s.size ≤ 140737488355328) with
    | false => simp only [hc, cond_false] at h; cases h
    | true =>
      simp only [hc, cond_true, Option.some.injEq] at h
      subst h
      exact .inl (.inr (.inl ⟨rfl, id, b, s, rfl, h1, of_decide_eq_true hc, rfl, rfl⟩))
theorem blen_ok {n id : Nat} {H : List HObj} {b : ByteArray} {c : Int} (h1 : H[id]? = some (.bld 98 5 b)) (h : bLen n b = some c) : Run G n 70 [.href id 0] H (.int .i64 c) H := by
  cases n with
  | zero => cases h
  | succ n => cases h; exact .inl (.inr (.inr (.inl ⟨rfl, id, b, rfl, h1, rfl, rfl⟩)))
theorem bstring_ok {n id : Nat} {H : List HObj} {b c : ByteArray} (h1 : H[id]? = some (.bld 98 5 b)) (h : bString n b = some c) : Run G n 73 [.href id 0] H (.str c) H := by
  cases n with
  | zero => cases h
  | succ n =>
    unfold bString at h
    cases hc : decide (1 ≤ b.size) with
    | false => simp only [hc, cond_false] at h; cases h
    | true =>
      simp only [hc, cond_true, Option.some.injEq] at h
      subst h
      exact .inl (.inr (.inr (.inr ⟨rfl, id, b, rfl, h1, of_decide_eq_true hc, rfl, rfl⟩)))

end Go.Proofs.Ytkignmhjbjgkoaa
