/- PRINTED BY gentab.py (wip): the table of types of this translation, for the abstract machine. -/
import Derived.Test.YtomalcfghdaghaaGreatDoorAmT
import Derived.Test.YtomalcfghdaghaaGreatDoorChecked
namespace Go.Proofs.YtomalcfghdaghaaGreatDoor
open Go Go.AM
def ti1:TI:=⟨false,1,8,.nilFunc,.other,false⟩
def ti2:TI:=⟨false,1,8,.int .i64 0,.int .i64,false⟩
def ti3:TI:=⟨false,1,8,.int .i64 0,.int .i64,false⟩
def ti4:TI:=⟨false,1,1,.bool false,.bool,false⟩
def ti5:TI:=⟨false,1,1,.int .u8 0,.int .u8,false⟩
def ti9:TI:=⟨false,1,16,.str ⟨#[]⟩,.string,false⟩
def ti26:TI:=⟨true,6,56,.agg [.int .i64 0,.int .i64 0,.str ⟨#[]⟩,.int .i64 0,.int .i64 0,.int .i64 0],.struct [⟨0,1,false,1⟩,⟨1,1,false,1⟩,⟨2,1,false,2⟩,⟨3,1,false,1⟩,⟨4,1,false,1⟩,⟨5,1,false,1⟩],true⟩
def ti27:TI:=⟨true,6,56,.agg [.int .i64 0,.int .i64 0,.str ⟨#[]⟩,.int .i64 0,.int .i64 0,.int .i64 0],.struct [⟨0,1,false,1⟩,⟨1,1,false,1⟩,⟨2,1,false,2⟩,⟨3,1,false,1⟩,⟨4,1,false,1⟩,⟨5,1,false,1⟩],true⟩
def ti31:TI:=⟨false,1,8,.int .i64 0,.int .i64,false⟩
def ti34:TI:=⟨false,1,4,.int .u32 0,.int .u32,false⟩
def ti41:TI:=⟨false,1,24,.slice .nil 6 0 (fun _=>.agg [.int .i64 0,.int .i64 0,.str ⟨#[]⟩,.int .i64 0,.int .i64 0,.int .i64 0]),.slice 27,false⟩
def ti42:TI:=⟨true,5,64,.agg [.int .i64 0,.int .i64 0,.int .i64 0,.str ⟨#[]⟩,.slice .nil 6 0 (fun _=>.agg [.int .i64 0,.int .i64 0,.str ⟨#[]⟩,.int .i64 0,.int .i64 0,.int .i64 0])],.struct [⟨0,1,false,1⟩,⟨1,1,false,1⟩,⟨2,1,false,1⟩,⟨3,1,false,2⟩,⟨4,1,false,0⟩],false⟩
def ti43:TI:=⟨true,5,64,.agg [.int .i64 0,.int .i64 0,.int .i64 0,.str ⟨#[]⟩,.slice .nil 6 0 (fun _=>.agg [.int .i64 0,.int .i64 0,.str ⟨#[]⟩,.int .i64 0,.int .i64 0,.int .i64 0])],.struct [⟨0,1,false,1⟩,⟨1,1,false,1⟩,⟨2,1,false,1⟩,⟨3,1,false,2⟩,⟨4,1,false,0⟩],false⟩
def ti44:TI:=⟨false,1,24,.slice .nil 2 0 (fun _=>.agg [.str ⟨#[]⟩,.int .i64 0]),.slice 84,false⟩
def ti45:TI:=⟨false,1,24,.slice .nil 2 0 (fun _=>.agg [.str ⟨#[]⟩,.int .i64 0]),.slice 86,false⟩
def ti46:TI:=⟨false,1,24,.slice .nil 4 0 (fun _=>.agg [.int .i64 0,.str ⟨#[]⟩,.str ⟨#[]⟩,.int .i64 0]),.slice 88,false⟩
def ti47:TI:=⟨true,4,80,.agg [.slice .nil 2 0 (fun _=>.agg [.str ⟨#[]⟩,.int .i64 0]),.slice .nil 2 0 (fun _=>.agg [.str ⟨#[]⟩,.int .i64 0]),.slice .nil 4 0 (fun _=>.agg [.int .i64 0,.str ⟨#[]⟩,.str ⟨#[]⟩,.int .i64 0]),.int .i64 0],.struct [⟨0,1,false,0⟩,⟨1,1,false,0⟩,⟨2,1,false,0⟩,⟨3,1,false,1⟩],false⟩
def ti48:TI:=⟨true,4,80,.agg [.slice .nil 2 0 (fun _=>.agg [.str ⟨#[]⟩,.int .i64 0]),.slice .nil 2 0 (fun _=>.agg [.str ⟨#[]⟩,.int .i64 0]),.slice .nil 4 0 (fun _=>.agg [.int .i64 0,.str ⟨#[]⟩,.str ⟨#[]⟩,.int .i64 0]),.int .i64 0],.struct [⟨0,1,false,0⟩,⟨1,1,false,0⟩,⟨2,1,false,0⟩,⟨3,1,false,1⟩],false⟩
def ti51:TI:=⟨false,1,24,.slice .nil 1 0 (fun _=>.str ⟨#[]⟩),.slice 9,false⟩
def ti58:TI:=⟨false,1,8,.nilFunc,.other,false⟩
def ti59:TI:=⟨false,1,8,.nilFunc,.other,false⟩
def ti62:TI:=⟨false,1,24,.slice .nil 1 0 (fun _=>.int .i64 0),.slice 3,false⟩
def ti81:TI:=⟨false,1,8,.nilMap,.map 9 4,false⟩
def ti83:TI:=⟨true,2,24,.agg [.str ⟨#[]⟩,.int .i64 0],.struct [⟨0,1,false,2⟩,⟨1,1,false,1⟩],true⟩
def ti84:TI:=⟨true,2,24,.agg [.str ⟨#[]⟩,.int .i64 0],.struct [⟨0,1,false,2⟩,⟨1,1,false,1⟩],true⟩
def ti85:TI:=⟨true,2,24,.agg [.str ⟨#[]⟩,.int .i64 0],.struct [⟨0,1,false,2⟩,⟨1,1,false,1⟩],true⟩
def ti86:TI:=⟨true,2,24,.agg [.str ⟨#[]⟩,.int .i64 0],.struct [⟨0,1,false,2⟩,⟨1,1,false,1⟩],true⟩
def ti87:TI:=⟨true,4,48,.agg [.int .i64 0,.str ⟨#[]⟩,.str ⟨#[]⟩,.int .i64 0],.struct [⟨0,1,false,1⟩,⟨1,1,false,2⟩,⟨2,1,false,2⟩,⟨3,1,false,1⟩],true⟩
def ti88:TI:=⟨true,4,48,.agg [.int .i64 0,.str ⟨#[]⟩,.str ⟨#[]⟩,.int .i64 0],.struct [⟨0,1,false,1⟩,⟨1,1,false,2⟩,⟨2,1,false,2⟩,⟨3,1,false,1⟩],true⟩
def ti90:TI:=⟨false,1,8,.nilMap,.map 9 3,false⟩
def ti91:TI:=⟨false,1,24,.slice .nil 1 0 (fun _=>.bool false),.slice 4,false⟩
def ti92:TI:=⟨true,2,32,.agg [.nilMap,.slice .nil 1 0 (fun _=>.bool false)],.struct [⟨0,1,false,0⟩,⟨1,1,false,0⟩],false⟩
def ti93:TI:=⟨true,2,32,.agg [.nilMap,.slice .nil 1 0 (fun _=>.bool false)],.struct [⟨0,1,false,0⟩,⟨1,1,false,0⟩],false⟩
def ti97:TI:=⟨false,1,8,.nilFunc,.other,false⟩
def ti98:TI:=⟨false,1,8,.nilFunc,.other,false⟩
def ti111:TI:=⟨false,1,8,.nilFunc,.other,false⟩
def ti112:TI:=⟨false,1,8,.nilFunc,.other,false⟩
def ti113:TI:=⟨true,2,16,.agg [.nilFunc,.nilFunc],.struct [⟨0,1,false,0⟩,⟨1,1,false,0⟩],false⟩
def ti114:TI:=⟨true,2,16,.agg [.nilFunc,.nilFunc],.struct [⟨0,1,false,0⟩,⟨1,1,false,0⟩],false⟩
def ti123:TI:=⟨false,1,8,.nilPtr,.other,false⟩
def ti124:TI:=⟨false,1,24,.slice .nil 1 0 (fun _=>.int .u8 0),.slice 5,false⟩
def ti125:TI:=⟨true,2,32,.agg [.nilPtr,.slice .nil 1 0 (fun _=>.int .u8 0)],.struct [⟨0,1,false,0⟩,⟨1,1,false,0⟩],false⟩
def ti126:TI:=⟨true,2,32,.agg [.nilPtr,.slice .nil 1 0 (fun _=>.int .u8 0)],.struct [⟨0,1,false,0⟩,⟨1,1,false,0⟩],false⟩
def ti151:TI:=⟨false,1,16,.nilIface,.iface,false⟩
def ti152:TI:=⟨false,1,16,.nilIface,.iface,false⟩
def ti166:TI:=⟨false,1,8,.int .u64 0,.int .u64,false⟩
def ti214:TI:=⟨true,16,64,.agg [.int .u32 0,.int .u32 0,.int .u32 0,.int .u32 0,.int .u32 0,.int .u32 0,.int .u32 0,.int .u32 0,.int .u32 0,.int .u32 0,.int .u32 0,.int .u32 0,.int .u32 0,.int .u32 0,.int .u32 0,.int .u32 0],.array 16 34,false⟩
def tiTab:TypeId→Option TI:=fun t=>match t with
 | 1=>some ti1
 | 2=>some ti2
 | 3=>some ti3
 | 4=>some ti4
 | 5=>some ti5
 | 9=>some ti9
 | 26=>some ti26
 | 27=>some ti27
 | 31=>some ti31
 | 34=>some ti34
 | 41=>some ti41
 | 42=>some ti42
 | 43=>some ti43
 | 44=>some ti44
 | 45=>some ti45
 | 46=>some ti46
 | 47=>some ti47
 | 48=>some ti48
 | 51=>some ti51
 | 58=>some ti58
 | 59=>some ti59
 | 62=>some ti62
 | 81=>some ti81
 | 83=>some ti83
 | 84=>some ti84
 | 85=>some ti85
 | 86=>some ti86
 | 87=>some ti87
 | 88=>some ti88
 | 90=>some ti90
 | 91=>some ti91
 | 92=>some ti92
 | 93=>some ti93
 | 97=>some ti97
 | 98=>some ti98
 | 111=>some ti111
 | 112=>some ti112
 | 113=>some ti113
 | 114=>some ti114
 | 123=>some ti123
 | 124=>some ti124
 | 125=>some ti125
 | 126=>some ti126
 | 151=>some ti151
 | 152=>some ti152
 | 166=>some ti166
 | 214=>some ti214
 | _=>none
def tiOf:TypeId→Option TI:=fun t=>bif Nat.blt t 260 then tiTab t else none
theorem tOk:TOk Tryz.checked.prog tiOf:=TOk_of (T:=tiTab) (n:=260) (by kernel_rfl)
end Go.Proofs.YtomalcfghdaghaaGreatDoor
