/- PRINTED BY gentab.py (wip): the table of types of this translation, for the abstract machine. -/
import Derived.Test.YtkkinfbipndfdaaAmT
import Derived.Test.YtkkinfbipndfdaaChecked
namespace Go.Proofs.Ytkkinfbipndfdaa
open Go Go.AM
def ti1 : TI := ⟨false, 1, 8, .nilFunc, .other, false⟩
def ti2 : TI := ⟨false, 1, 8, .int .i64 0, .int .i64, false⟩
def ti3 : TI := ⟨false, 1, 8, .int .i64 0, .int .i64, false⟩
def ti4 : TI := ⟨false, 1, 1, .bool false, .bool, false⟩
def ti5 : TI := ⟨false, 1, 1, .int .u8 0, .int .u8, false⟩
def ti9 : TI := ⟨false, 1, 16, .str ⟨#[]⟩, .string, false⟩
def ti22 : TI := ⟨false, 1, 24, .slice .nil 1 0 (fun _ => .str ⟨#[]⟩), .slice 9, false⟩
def ti23 : TI := ⟨true, 4, 4, .agg [.int .u8 0, .int .u8 0, .int .u8 0, .int .u8 0], .array 4 5, false⟩
def ti25 : TI := ⟨false, 1, 24, .slice .nil 1 0 (fun _ => .int .i64 0), .slice 3, false⟩
def ti26 : TI := ⟨true, 4, 64, .agg [.int .i64 0, .slice .nil 1 0 (fun _ => .str ⟨#[]⟩), .int .u8 0, .slice .nil 1 0 (fun _ => .int .i64 0)], .struct [⟨0, 1, false, 1⟩, ⟨1, 1, false, 0⟩, ⟨2, 1, false, 1⟩, ⟨3, 1, false, 0⟩], false⟩
def ti27 : TI := ⟨true, 4, 64, .agg [.int .i64 0, .slice .nil 1 0 (fun _ => .str ⟨#[]⟩), .int .u8 0, .slice .nil 1 0 (fun _ => .int .i64 0)], .struct [⟨0, 1, false, 1⟩, ⟨1, 1, false, 0⟩, ⟨2, 1, false, 1⟩, ⟨3, 1, false, 0⟩], false⟩
def ti28 : TI := ⟨false, 1, 24, .slice .nil 4 0 (fun _ => .agg [.int .i64 0, .slice .nil 1 0 (fun _ => .str ⟨#[]⟩), .int .u8 0, .slice .nil 1 0 (fun _ => .int .i64 0)]), .slice 27, false⟩
def ti30 : TI := ⟨false, 1, 24, .slice .nil 1 0 (fun _ => .int .u8 0), .slice 5, false⟩
def ti37 : TI := ⟨false, 1, 8, .nilFunc, .other, false⟩
def ti38 : TI := ⟨false, 1, 24, .slice .nil 2 0 (fun _ => .agg [.str ⟨#[]⟩, .int .i64 0]), .slice 71, false⟩
def ti39 : TI := ⟨false, 1, 24, .slice .nil 2 0 (fun _ => .agg [.str ⟨#[]⟩, .int .i64 0]), .slice 103, false⟩
def ti40 : TI := ⟨false, 1, 24, .slice .nil 4 0 (fun _ => .agg [.int .i64 0, .str ⟨#[]⟩, .str ⟨#[]⟩, .int .i64 0]), .slice 68, false⟩
def ti41 : TI := ⟨true, 4, 80, .agg [.slice .nil 2 0 (fun _ => .agg [.str ⟨#[]⟩, .int .i64 0]), .slice .nil 2 0 (fun _ => .agg [.str ⟨#[]⟩, .int .i64 0]), .slice .nil 4 0 (fun _ => .agg [.int .i64 0, .str ⟨#[]⟩, .str ⟨#[]⟩, .int .i64 0]), .int .i64 0], .struct [⟨0, 1, false, 0⟩, ⟨1, 1, false, 0⟩, ⟨2, 1, false, 0⟩, ⟨3, 1, false, 1⟩], false⟩
def ti42 : TI := ⟨true, 4, 80, .agg [.slice .nil 2 0 (fun _ => .agg [.str ⟨#[]⟩, .int .i64 0]), .slice .nil 2 0 (fun _ => .agg [.str ⟨#[]⟩, .int .i64 0]), .slice .nil 4 0 (fun _ => .agg [.int .i64 0, .str ⟨#[]⟩, .str ⟨#[]⟩, .int .i64 0]), .int .i64 0], .struct [⟨0, 1, false, 0⟩, ⟨1, 1, false, 0⟩, ⟨2, 1, false, 0⟩, ⟨3, 1, false, 1⟩], false⟩
def ti43 : TI := ⟨false, 1, 8, .int .i64 0, .int .i64, false⟩
def ti48 : TI := ⟨true, 7, 128, .agg [.slice .nil 2 0 (fun _ => .agg [.str ⟨#[]⟩, .int .i64 0]), .slice .nil 2 0 (fun _ => .agg [.str ⟨#[]⟩, .int .i64 0]), .slice .nil 4 0 (fun _ => .agg [.int .i64 0, .str ⟨#[]⟩, .str ⟨#[]⟩, .int .i64 0]), .int .i64 0, .str ⟨#[]⟩, .int .i64 0, .slice .nil 1 0 (fun _ => .str ⟨#[]⟩)], .struct [⟨0, 4, true, 0⟩, ⟨4, 1, false, 2⟩, ⟨5, 1, false, 1⟩, ⟨6, 1, false, 0⟩], false⟩
def ti49 : TI := ⟨true, 7, 128, .agg [.slice .nil 2 0 (fun _ => .agg [.str ⟨#[]⟩, .int .i64 0]), .slice .nil 2 0 (fun _ => .agg [.str ⟨#[]⟩, .int .i64 0]), .slice .nil 4 0 (fun _ => .agg [.int .i64 0, .str ⟨#[]⟩, .str ⟨#[]⟩, .int .i64 0]), .int .i64 0, .str ⟨#[]⟩, .int .i64 0, .slice .nil 1 0 (fun _ => .str ⟨#[]⟩)], .struct [⟨0, 4, true, 0⟩, ⟨4, 1, false, 2⟩, ⟨5, 1, false, 1⟩, ⟨6, 1, false, 0⟩], false⟩
def ti55 : TI := ⟨false, 1, 8, .nilFunc, .other, false⟩
def ti56 : TI := ⟨false, 1, 8, .nilFunc, .other, false⟩
def ti59 : TI := ⟨false, 1, 8, .nilMap, .map 9 3, false⟩
def ti60 : TI := ⟨false, 1, 24, .slice .nil 1 0 (fun _ => .bool false), .slice 4, false⟩
def ti61 : TI := ⟨true, 2, 32, .agg [.nilMap, .slice .nil 1 0 (fun _ => .bool false)], .struct [⟨0, 1, false, 0⟩, ⟨1, 1, false, 0⟩], false⟩
def ti62 : TI := ⟨true, 2, 32, .agg [.nilMap, .slice .nil 1 0 (fun _ => .bool false)], .struct [⟨0, 1, false, 0⟩, ⟨1, 1, false, 0⟩], false⟩
def ti67 : TI := ⟨true, 4, 48, .agg [.int .i64 0, .str ⟨#[]⟩, .str ⟨#[]⟩, .int .i64 0], .struct [⟨0, 1, false, 1⟩, ⟨1, 1, false, 2⟩, ⟨2, 1, false, 2⟩, ⟨3, 1, false, 1⟩], true⟩
def ti68 : TI := ⟨true, 4, 48, .agg [.int .i64 0, .str ⟨#[]⟩, .str ⟨#[]⟩, .int .i64 0], .struct [⟨0, 1, false, 1⟩, ⟨1, 1, false, 2⟩, ⟨2, 1, false, 2⟩, ⟨3, 1, false, 1⟩], true⟩
def ti70 : TI := ⟨true, 2, 24, .agg [.str ⟨#[]⟩, .int .i64 0], .struct [⟨0, 1, false, 2⟩, ⟨1, 1, false, 1⟩], true⟩
def ti71 : TI := ⟨true, 2, 24, .agg [.str ⟨#[]⟩, .int .i64 0], .struct [⟨0, 1, false, 2⟩, ⟨1, 1, false, 1⟩], true⟩
def ti76 : TI := ⟨false, 1, 24, .slice .nil 1 0 (fun _ => .nilFunc), .slice 97, false⟩
def ti78 : TI := ⟨false, 1, 8, .nilFunc, .other, false⟩
def ti82 : TI := ⟨false, 1, 8, .int .u64 0, .int .u64, false⟩
def ti84 : TI := ⟨false, 1, 4, .int .u32 0, .int .u32, false⟩
def ti86 : TI := ⟨false, 1, 8, .nilFunc, .other, false⟩
def ti90 : TI := ⟨false, 1, 8, .nilFunc, .other, false⟩
def ti91 : TI := ⟨false, 1, 8, .nilFunc, .other, false⟩
def ti92 : TI := ⟨true, 2, 16, .agg [.nilFunc, .nilFunc], .struct [⟨0, 1, false, 0⟩, ⟨1, 1, false, 0⟩], false⟩
def ti93 : TI := ⟨true, 2, 16, .agg [.nilFunc, .nilFunc], .struct [⟨0, 1, false, 0⟩, ⟨1, 1, false, 0⟩], false⟩
def ti97 : TI := ⟨false, 1, 8, .nilFunc, .other, false⟩
def ti98 : TI := ⟨false, 1, 8, .int .u64 0, .int .u64, false⟩
def ti102 : TI := ⟨true, 2, 24, .agg [.str ⟨#[]⟩, .int .i64 0], .struct [⟨0, 1, false, 2⟩, ⟨1, 1, false, 1⟩], true⟩
def ti103 : TI := ⟨true, 2, 24, .agg [.str ⟨#[]⟩, .int .i64 0], .struct [⟨0, 1, false, 2⟩, ⟨1, 1, false, 1⟩], true⟩
def ti104 : TI := ⟨false, 1, 8, .nilFunc, .other, false⟩
def ti105 : TI := ⟨false, 1, 8, .nilFunc, .other, false⟩
def ti107 : TI := ⟨true, 16, 64, .agg [.int .u32 0, .int .u32 0, .int .u32 0, .int .u32 0, .int .u32 0, .int .u32 0, .int .u32 0, .int .u32 0, .int .u32 0, .int .u32 0, .int .u32 0, .int .u32 0, .int .u32 0, .int .u32 0, .int .u32 0, .int .u32 0], .array 16 84, false⟩
def ti109 : TI := ⟨false, 1, 8, .nilFunc, .other, false⟩
def tiTab : TypeId → Option TI := fun t => match t with
  | 1 => some ti1
  | 2 => some ti2
  | 3 => some ti3
  | 4 => some ti4
  | 5 => some ti5
  | 9 => some ti9
  | 22 => some ti22
  | 23 => some ti23
  | 25 => some ti25
  | 26 => some ti26
  | 27 => some ti27
  | 28 => some ti28
  | 30 => some ti30
  | 37 => some ti37
  | 38 => some ti38
  | 39 => some ti39
  | 40 => some ti40
  | 41 => some ti41
  | 42 => some ti42
  | 43 => some ti43
  | 48 => some ti48
  | 49 => some ti49
  | 55 => some ti55
  | 56 => some ti56
  | 59 => some ti59
  | 60 => some ti60
  | 61 => some ti61
  | 62 => some ti62
  | 67 => some ti67
  | 68 => some ti68
  | 70 => some ti70
  | 71 => some ti71
  | 76 => some ti76
  | 78 => some ti78
  | 82 => some ti82
  | 84 => some ti84
  | 86 => some ti86
  | 90 => some ti90
  | 91 => some ti91
  | 92 => some ti92
  | 93 => some ti93
  | 97 => some ti97
  | 98 => some ti98
  | 102 => some ti102
  | 103 => some ti103
  | 104 => some ti104
  | 105 => some ti105
  | 107 => some ti107
  | 109 => some ti109
  | _ => none
def tiOf : TypeId → Option TI := fun t => bif Nat.blt t 126 then tiTab t else none
theorem tOk : TOk Try.checked.prog tiOf := TOk_of (T := tiTab) (n := 126) (by kernel_rfl)
end Go.Proofs.Ytkkinfbipndfdaa
