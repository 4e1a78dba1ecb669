/- PRINTED: the functions of the program, as typed functions. -/
import Derived.Test.YtomalcfghdaghaaGreatDoorTy
import Derived.Test.YtomalcfghdaghaaGreatDoorLib0
set_option linter.unusedVariables false
set_option maxRecDepth 100000
set_option maxHeartbeats 0
namespace Go.Proofs.YtomalcfghdaghaaGreatDoor
open Go Go.AM
def r24_Great (n:Nat) (p0:GMf):Option Bool:=match n with
 | 0=>none
 | n+1=>bif (decide ((p0.Blocks.length:Int)>12)) then (some true) else (some (decide ((p0.Log.size:Int)>100)))
def w24_sample (n:Nat):Option GMf:=match n with
 | 0=>none
 | n+1=>some (⟨1,3,0,(⟨#[119,97,108,46,49]⟩:ByteArray),[(⟨2,0,(⟨#[98,108,111,99,107,46,50]⟩:ByteArray),5,9,100⟩:GBR)]⟩:GMf)
def mf_isName_s1 (n:Nat) (k_l0:Int→Int→Option Bool) (p0:ByteArray) (i1:Int) (i2:Int) (b1:Bool) (i4:Int):Option Bool:=bif (!b1) then (bif (decide (i2<48)) then (bif (i2 != 46) then (bif (i2 != 95) then (bif (i2 != 45) then (some false) else (k_l0 i1 (IntKind.wrap .i64 (i4+1)))) else (k_l0 i1 (IntKind.wrap .i64 (i4+1)))) else (k_l0 i1 (IntKind.wrap .i64 (i4+1)))) else (bif (decide (i2>57)) then (bif (i2 != 46) then (bif (i2 != 95) then (bif (i2 != 45) then (some false) else (k_l0 i1 (IntKind.wrap .i64 (i4+1)))) else (k_l0 i1 (IntKind.wrap .i64 (i4+1)))) else (k_l0 i1 (IntKind.wrap .i64 (i4+1)))) else (k_l0 i1 (IntKind.wrap .i64 (i4+1))))) else (k_l0 i1 (IntKind.wrap .i64 (i4+1)))
def mf_isName_l0 (n:Nat) (p0:ByteArray):Nat→Int→Int→Option Bool
 | 0,_,_=>none
 | m+1,i1,i3=>bif (decide (i3<i1)) then (bif (decide ((0:Int)≤i3)&&decide (i3<(p0.size:Int))) then (bif (decide ((bt p0 i3.toNat)≥65)) then (bif (decide ((bt p0 i3.toNat)≤90)) then (mf_isName_s1 n (fun a0 a1=>mf_isName_l0 n p0 m a0 a1) p0 i1 (bt p0 i3.toNat) true i3) else (bif (decide ((bt p0 i3.toNat)≥97)) then (mf_isName_s1 n (fun a0 a1=>mf_isName_l0 n p0 m a0 a1) p0 i1 (bt p0 i3.toNat) (decide ((bt p0 i3.toNat)≤122)) i3) else (mf_isName_s1 n (fun a0 a1=>mf_isName_l0 n p0 m a0 a1) p0 i1 (bt p0 i3.toNat) false i3))) else (bif (decide ((bt p0 i3.toNat)≥97)) then (mf_isName_s1 n (fun a0 a1=>mf_isName_l0 n p0 m a0 a1) p0 i1 (bt p0 i3.toNat) (decide ((bt p0 i3.toNat)≤122)) i3) else (mf_isName_s1 n (fun a0 a1=>mf_isName_l0 n p0 m a0 a1) p0 i1 (bt p0 i3.toNat) false i3))) else none) else (some true)
def mf_isName (n:Nat) (p0:ByteArray):Option Bool:=match n with
 | 0=>none
 | n+1=>bif (decide ((p0.size:Int)<1)) then (some false) else (bif (decide ((p0.size:Int)>60)) then (some false) else (bif (sEq p0 (⟨#[77,65,78,73,70,69,83,84]⟩:ByteArray)) then (some false) else (bif (sEq p0 (⟨#[77,65,78,73,70,69,83,84,46,110,101,119]⟩:ByteArray)) then (some false) else (mf_isName_l0 n p0 n (p0.size:Int) 0))))
def mf_checkRef (n:Nat) (p0:GBR) (p1:Int) (p2:Int):Option Int:=match n with
 | 0=>none
 | n+1=>bif (decide (p0.Id<1)) then (some 2) else (bif (decide (p0.Id≥p1)) then (some 2) else (bif (decide (p0.Id≤p2)) then (some 9) else (bif (decide (p0.Width<0)) then (some 2) else (bif (decide (p0.Width>1099511627776)) then (some 2) else (bif (decide (p0.MinTime<1)) then (some 2) else (bif (decide (p0.MinTime>1099511627776)) then (some 2) else (bif (decide (p0.MaxTime<p0.MinTime)) then (some 2) else (bif (decide (p0.MaxTime>1099511627776)) then (some 2) else (bif (decide (p0.Size<0)) then (some 2) else (bif (decide (p0.Size>1048576)) then (some 2) else ((mf_isName n p0.File).bind fun r1=>(bif (!r1) then (some 5) else (some 0)))))))))))))
def mf_Check_l0 (n:Nat) (p0:GMf):Nat→Int→Int→Int→(List (ByteArray×Bool))→Option Int
 | 0,_,_,_,_=>none
 | m+1,i2,i1,i3,l1=>bif (decide (i3<i1)) then (bif (decide ((0:Int)≤i3)&&decide (i3<(p0.Blocks.length:Int))) then ((mf_checkRef n (p0.Blocks.getD i3.toNat dGBR) p0.Next i2).bind fun r2=>(bif (r2 != 0) then (some r2) else (bif ((lk ((p0.Blocks.getD i3.toNat dGBR).File) l1).getD false) then (some 6) else (mf_Check_l0 n p0 m ((p0.Blocks.getD i3.toNat dGBR).Id) i1 (IntKind.wrap .i64 (i3+1)) (putL ((p0.Blocks.getD i3.toNat dGBR).File) true l1))))) else none) else (some 0)
def mf_Check (n:Nat) (p0:GMf):Option Int:=match n with
 | 0=>none
 | n+1=>bif (decide (p0.Version<0)) then (some 2) else (bif (decide (p0.Version>1152921504606846976)) then (some 2) else (bif (decide (p0.Next<1)) then (some 2) else (bif (decide (p0.Next>1152921504606846976)) then (some 2) else (bif (decide (p0.RawFrom<0)) then (some 2) else (bif (decide (p0.RawFrom>1099511627776)) then (some 2) else ((mf_isName n p0.Log).bind fun r1=>(bif (!r1) then (some 5) else (bif (decide ((p0.Blocks.length:Int)>100)) then (some 4) else (mf_Check_l0 n p0 n 0 (p0.Blocks.length:Int) 0 (putL p0.Log true []))))))))))
def mf_writeLine_s1 (n:Nat) (p2:ByteArray) (s2:ByteArray):Option ByteArray:=(bByte n s2 32).bind fun r5=>((bWrite n r5 p2).bind fun r6=>((bByte n r6 10).bind fun r7=>(some r7)))
def mf_writeLine_l0 (n:Nat) (p2:ByteArray) (p1:List Int):Nat→Int→Int→ByteArray→Option ByteArray
 | 0,_,_,_=>none
 | m+1,i1,i2,s1=>bif (decide (i2<i1)) then (bif (decide ((0:Int)≤i2)&&decide (i2<(p1.length:Int))) then ((bByte n s1 32).bind fun r2=>((itoaS n (p1.getD i2.toNat 0)).bind fun r3=>((bWrite n r2 r3).bind fun r4=>(mf_writeLine_l0 n p2 p1 m i1 (IntKind.wrap .i64 (i2+1)) r4)))) else none) else (mf_writeLine_s1 n p2 s1)
def mf_writeLine (n:Nat) (p0:ByteArray) (p1:List Int) (p2:ByteArray) (p3:ByteArray):Option ByteArray:=match n with
 | 0=>none
 | n+1=>(bWrite n p3 p0).bind fun r1=>(mf_writeLine_l0 n p2 p1 n (p1.length:Int) 0 r1)
def crc32c_shifted_s1 (n:Nat) (k_l0:Int→Int→Option Int) (p1:Int) (i1:Int) (i4:Int):Option Int:=k_l0 i1 (IntKind.wrap .i64 (i4+1))
def crc32c_shifted_l0 (n:Nat) (p1:Int):Nat→Int→Int→Option Int
 | 0,_,_=>none
 | m+1,i2,i3=>bif (decide (i3<p1)) then (bif ((iAnd .u32 i2 1) != 0) then (crc32c_shifted_s1 n (fun a0 a1=>crc32c_shifted_l0 n p1 m a0 a1) p1 (iXor .u32 (iShr .u32 i2 1) 2197175160) i3) else (crc32c_shifted_s1 n (fun a0 a1=>crc32c_shifted_l0 n p1 m a0 a1) p1 (iShr .u32 i2 1) i3)) else (some i2)
def crc32c_shifted (n:Nat) (p0:Int) (p1:Int):Option Int:=match n with
 | 0=>none
 | n+1=>crc32c_shifted_l0 n p1 n p0 0
def crc32c_fed_l2 (n:Nat) (p1:ByteArray) (l1:List Int):Nat→Int→Int→Option Int
 | 0,_,_=>none
 | m+1,i2,i3=>bif (decide (i3<(p1.size:Int))) then (bif (decide ((0:Int)≤i3)&&decide (i3<(p1.size:Int))) then (bif (decide ((0:Int)≤(iAnd .u32 (iXor .u32 i2 (IntKind.wrap .u32 (bt p1 i3.toNat))) 15))&&decide ((iAnd .u32 (iXor .u32 i2 (IntKind.wrap .u32 (bt p1 i3.toNat))) 15)<((16:Nat):Int))) then (bif Nat.blt ((iAnd .u32 (iXor .u32 i2 (IntKind.wrap .u32 (bt p1 i3.toNat))) 15).toNat) l1.length then (bif (decide ((0:Int)≤(iAnd .u32 (iXor .u32 (iShr .u32 (iXor .u32 i2 (IntKind.wrap .u32 (bt p1 i3.toNat))) 4) (l1.getD ((iAnd .u32 (iXor .u32 i2 (IntKind.wrap .u32 (bt p1 i3.toNat))) 15).toNat) 0)) 15))&&decide ((iAnd .u32 (iXor .u32 (iShr .u32 (iXor .u32 i2 (IntKind.wrap .u32 (bt p1 i3.toNat))) 4) (l1.getD ((iAnd .u32 (iXor .u32 i2 (IntKind.wrap .u32 (bt p1 i3.toNat))) 15).toNat) 0)) 15)<((16:Nat):Int))) then (bif Nat.blt ((iAnd .u32 (iXor .u32 (iShr .u32 (iXor .u32 i2 (IntKind.wrap .u32 (bt p1 i3.toNat))) 4) (l1.getD ((iAnd .u32 (iXor .u32 i2 (IntKind.wrap .u32 (bt p1 i3.toNat))) 15).toNat) 0)) 15).toNat) l1.length then (crc32c_fed_l2 n p1 l1 m (iXor .u32 (iShr .u32 (iXor .u32 (iShr .u32 (iXor .u32 i2 (IntKind.wrap .u32 (bt p1 i3.toNat))) 4) (l1.getD ((iAnd .u32 (iXor .u32 i2 (IntKind.wrap .u32 (bt p1 i3.toNat))) 15).toNat) 0)) 4) (l1.getD ((iAnd .u32 (iXor .u32 (iShr .u32 (iXor .u32 i2 (IntKind.wrap .u32 (bt p1 i3.toNat))) 4) (l1.getD ((iAnd .u32 (iXor .u32 i2 (IntKind.wrap .u32 (bt p1 i3.toNat))) 15).toNat) 0)) 15).toNat) 0)) (IntKind.wrap .i64 (i3+1))) else none) else none) else none) else none) else none) else (some i2)
def crc32c_fed_s1 (n:Nat) (p0:Int) (p1:ByteArray) (l1:List Int):Option Int:=crc32c_fed_l2 n p1 l1 n p0 0
def crc32c_fed_l0 (n:Nat) (p0:Int) (p1:ByteArray):Nat→Int→(List Int)→Option Int
 | 0,_,_=>none
 | m+1,i1,l1=>bif (decide (i1<16)) then ((crc32c_shifted n (IntKind.wrap .u32 i1) 4).bind fun r1=>(bif (decide ((0:Int)≤i1)&&decide (i1<((16:Nat):Int))) then (bif Nat.blt i1.toNat l1.length then (crc32c_fed_l0 n p0 p1 m (IntKind.wrap .i64 (i1+1)) (l1.set i1.toNat r1)) else none) else none)) else (crc32c_fed_s1 n p0 p1 l1)
def crc32c_fed (n:Nat) (p0:Int) (p1:ByteArray):Option Int:=match n with
 | 0=>none
 | n+1=>crc32c_fed_l0 n p0 p1 n 0 (List.replicate 16 0)
def crc32c_Update (n:Nat) (p0:Int) (p1:ByteArray):Option Int:=match n with
 | 0=>none
 | n+1=>(crc32c_fed n (iNot .u32 p0) p1).bind fun r1=>(some (iNot .u32 r1))
def crc32c_Sum (n:Nat) (p0:ByteArray):Option Int:=match n with
 | 0=>none
 | n+1=>(crc32c_Update n 0 p0).bind fun r1=>(some r1)
def crc32c_ending (n:Nat) (p0:Int):Option ByteArray:=match n with
 | 0=>none
 | n+1=>some (bytesOf [(IntKind.wrap .u8 p0),(IntKind.wrap .u8 (iShr .u32 p0 8)),(IntKind.wrap .u8 (iShr .u32 p0 16)),(IntKind.wrap .u8 (iShr .u32 p0 24))])
def crc32c_Seal (n:Nat) (p0:ByteArray):Option ByteArray:=match n with
 | 0=>none
 | n+1=>(crc32c_Sum n p0).bind fun r1=>((crc32c_ending n r1).bind fun r2=>(bif (decide (p0.size+r2.size≤9223372036854775807)) then (some (p0++r2)) else none))
def mf_Encode_s1 (n:Nat) (s2:ByteArray):Option (ByteArray×Int):=(bString n s2).bind fun r4=>((crc32c_Seal n r4).bind fun r5=>(some (r5,0)))
def mf_Encode_l0 (n:Nat) (p0:GMf):Nat→Int→Int→ByteArray→Option (ByteArray×Int)
 | 0,_,_,_=>none
 | m+1,i1,i2,s1=>bif (decide (i2<i1)) then (bif (decide ((0:Int)≤i2)&&decide (i2<(p0.Blocks.length:Int))) then ((mf_writeLine n (⟨#[98,108,111,99,107]⟩:ByteArray) [(p0.Blocks.getD i2.toNat dGBR).Id,(p0.Blocks.getD i2.toNat dGBR).Width,(p0.Blocks.getD i2.toNat dGBR).MinTime,(p0.Blocks.getD i2.toNat dGBR).MaxTime,(p0.Blocks.getD i2.toNat dGBR).Size] ((p0.Blocks.getD i2.toNat dGBR).File) s1).bind fun r3=>(mf_Encode_l0 n p0 m i1 (IntKind.wrap .i64 (i2+1)) r3)) else none) else (mf_Encode_s1 n s1)
def mf_Encode (n:Nat) (p0:GMf):Option (ByteArray×Int):=match n with
 | 0=>none
 | n+1=>(mf_Check n p0).bind fun r1=>(bif (r1 != 0) then (some (bE,1)) else ((mf_writeLine n (⟨#[109,97,110,105,102,101,115,116]⟩:ByteArray) [p0.Version,p0.Next,p0.RawFrom] p0.Log bE).bind fun r2=>(mf_Encode_l0 n p0 n (p0.Blocks.length:Int) 0 r2)))
def crc32c_Open (n:Nat) (p0:ByteArray):Option (ByteArray×Int):=match n with
 | 0=>none
 | n+1=>bif (decide ((p0.size:Int)<4)) then (some (bE,11)) else (bif (decide ((0:Int)≤0)&&decide (0≤(IntKind.wrap .i64 ((p0.size:Int)-4)))&&decide ((IntKind.wrap .i64 ((p0.size:Int)-4))≤(p0.size:Int))) then (bif (decide ((0:Int)≤((ByteArray.extract p0 0 ((IntKind.wrap .i64 ((p0.size:Int)-4)).toNat)).size:Int))&&decide (((ByteArray.extract p0 0 ((IntKind.wrap .i64 ((p0.size:Int)-4)).toNat)).size:Int)≤(p0.size:Int))&&decide ((p0.size:Int)≤(p0.size:Int))) then ((crc32c_Sum n (ByteArray.extract p0 0 ((IntKind.wrap .i64 ((p0.size:Int)-4)).toNat))).bind fun r1=>((crc32c_ending n r1).bind fun r2=>(bif (sNe (ByteArray.extract p0 ((ByteArray.extract p0 0 ((IntKind.wrap .i64 ((p0.size:Int)-4)).toNat)).size) p0.size) r2) then (some (bE,13)) else (some ((ByteArray.extract p0 0 ((IntKind.wrap .i64 ((p0.size:Int)-4)).toNat)),0))))) else none) else none)
def mf_lines (n:Nat) (p0:ByteArray):Option ByteArray:=match n with
 | 0=>none
 | n+1=>some p0
def mf_parseLine_s1 (n:Nat) (p2:Int) (r1:List ByteArray) (l1:List Int):Option ((List Int)×ByteArray×Bool):=bif (decide ((0:Int)≤(IntKind.wrap .i64 (p2+1)))&&decide ((IntKind.wrap .i64 (p2+1))<(r1.length:Int))) then (bif Nat.ble p2.toNat l1.length then (some ((l1.take p2.toNat),(r1.getD ((IntKind.wrap .i64 (p2+1)).toNat) bE),true)) else none) else none
def mf_parseLine_l0 (n:Nat) (p2:Int) (r1:List ByteArray):Nat→Int→Int→(List Int)→Option ((List Int)×ByteArray×Bool)
 | 0,_,_,_=>none
 | m+1,i1,i2,l1=>bif (decide (i2<i1)) then (bif (decide ((0:Int)≤(IntKind.wrap .i64 (i2+1)))&&decide ((IntKind.wrap .i64 (i2+1))<(r1.length:Int))) then ((atoiS n (r1.getD ((IntKind.wrap .i64 (i2+1)).toNat) bE)).bind fun r2=>(match r2 with | .ok r3=>bif (decide ((0:Int)≤i2)&&decide (i2<(p2.toNat:Int))) then (bif Nat.blt i2.toNat l1.length then (mf_parseLine_l0 n p2 r1 m i1 (IntKind.wrap .i64 (i2+1)) (l1.set i2.toNat r3)) else none) else none | .bad r3=>some ([],bE,false))) else none) else (mf_parseLine_s1 n p2 r1 l1)
def mf_parseLine (n:Nat) (p0:ByteArray) (p1:ByteArray) (p2:Int):Option ((List Int)×ByteArray×Bool):=match n with
 | 0=>none
 | n+1=>(splitS n p0 (⟨#[32]⟩:ByteArray)).bind fun r1=>(bif ((r1.length:Int) != (IntKind.wrap .i64 (p2+2))) then (some ([],bE,false)) else (bif (decide ((0:Int)≤0)&&decide ((0:Int)<(r1.length:Int))) then (bif (sNe (r1.getD 0 bE) p1) then (some ([],bE,false)) else (bif (decide (0≤p2)&&decide (p2*8≤140737488355328)&&decide (p2≤9223372036854775807)) then (mf_parseLine_l0 n p2 r1 n (p2.toNat:Int) 0 (List.replicate p2.toNat 0)) else none)) else none))
inductive mf_parse_r0_R where
 | c0 (a0:Int) (a1:Int) (a2:Int) (a3:ByteArray) (a4:List GBR) (a5:Int) (a6:Int) (a7:Int) (a8:ByteArray) (a9:List GBR) (a10:Bool)
 | c1 (a0:Int) (a1:Int) (a2:Int) (a3:ByteArray) (a4:List GBR) (a5:Bool) (a6:Int) (a7:Int) (a8:Int) (a9:ByteArray) (a10:List GBR) (a11:Bool)
def mf_parse_r0 (n:Nat) (p0:ByteArray) (p1:Int) (p2:Int) (p3:Int) (p4:ByteArray) (p5:List GBR) (p6:Bool) (p7:Int) (p8:Int) (p9:Int) (p10:ByteArray) (p11:List GBR) (p12:Bool):Option mf_parse_r0_R:=match n with
 | 0=>none
 | n+1=>bif p12 then ((mf_parseLine n p0 (⟨#[109,97,110,105,102,101,115,116]⟩:ByteArray) 3).bind fun r1=>(bif (!r1.2.2) then (some (mf_parse_r0_R.c0 p7 p8 p9 p10 p11 p7 p8 p9 p10 p11 p12)) else (bif (decide ((0:Int)≤0)&&decide ((0:Int)<(r1.1.length:Int))) then (bif (decide ((0:Int)≤1)&&decide ((1:Int)<(r1.1.length:Int))) then (bif (decide ((0:Int)≤2)&&decide ((2:Int)<(r1.1.length:Int))) then (some (mf_parse_r0_R.c1 p1 p2 p3 p4 p5 p6 (r1.1.getD 0 0) (r1.1.getD 1 0) (r1.1.getD 2 0) r1.2.1 p11 false)) else none) else none) else none))) else ((mf_parseLine n p0 (⟨#[98,108,111,99,107]⟩:ByteArray) 5).bind fun r2=>(bif (!r2.2.2) then (some (mf_parse_r0_R.c0 p7 p8 p9 p10 p11 p7 p8 p9 p10 p11 p12)) else (bif ((p11.length:Int)==100) then (some (mf_parse_r0_R.c0 p7 p8 p9 p10 p11 p7 p8 p9 p10 p11 p12)) else (bif (decide ((0:Int)≤0)&&decide ((0:Int)<(r2.1.length:Int))) then (bif (decide ((0:Int)≤1)&&decide ((1:Int)<(r2.1.length:Int))) then (bif (decide ((0:Int)≤2)&&decide ((2:Int)<(r2.1.length:Int))) then (bif (decide ((0:Int)≤3)&&decide ((3:Int)<(r2.1.length:Int))) then (bif (decide ((0:Int)≤4)&&decide ((4:Int)<(r2.1.length:Int))) then (bif (true&&(decide ((p11.length+1)*56≤140737488355328)&&decide (p11.length+1≤9223372036854775807))) then (some (mf_parse_r0_R.c1 p1 p2 p3 p4 p5 p6 p7 p8 p9 p10 (p11++[(⟨(r2.1.getD 0 0),(r2.1.getD 1 0),r2.2.1,(r2.1.getD 2 0),(r2.1.getD 3 0),(r2.1.getD 4 0)⟩:GBR)]) p12)) else none) else none) else none) else none) else none) else none))))
inductive mf_lines_c1_R where
 | c0 (a0:Int) (a1:Int) (a2:Int) (a3:ByteArray) (a4:List GBR) (a5:Bool) (a6:Int) (a7:Int) (a8:Int) (a9:ByteArray) (a10:List GBR) (a11:Bool) (a12:ByteArray)
 | c1 (a0:Int) (a1:Int) (a2:Int) (a3:ByteArray) (a4:List GBR) (a5:Int) (a6:Int) (a7:Int) (a8:ByteArray) (a9:List GBR) (a10:Bool) (a11:ByteArray)
def mf_lines_c1_l0 (n:Nat) (p12:ByteArray):Nat→ByteArray→Int→Int→Int→ByteArray→(List GBR)→Bool→Int→Int→Int→ByteArray→(List GBR)→Bool→Option mf_lines_c1_R
 | 0,_,_,_,_,_,_,_,_,_,_,_,_,_=>none
 | m+1,s1,i1,i2,i3,s2,l1,b1,i4,i5,i6,s3,l2,b2=>(cutS n s1 (⟨#[10]⟩:ByteArray)).bind fun r1=>((mf_parse_r0 n r1.1 i1 i2 i3 s2 l1 b1 i4 i5 i6 s3 l2 b2).bind fun r2=>(match r2 with | .c0 r3 r4 r5 r6 r7 r8 r9 r10 r11 r12 r13=>some (mf_lines_c1_R.c1 r3 r4 r5 r6 r7 r8 r9 r10 r11 r12 r13 p12) | .c1 r14 r15 r16 r17 r18 r19 r20 r21 r22 r23 r24 r25=>bif (!r1.2.2) then (some (mf_lines_c1_R.c0 r14 r15 r16 r17 r18 r19 r20 r21 r22 r23 r24 r25 p12)) else (bif (sEq r1.2.1 bE) then (some (mf_lines_c1_R.c0 r14 r15 r16 r17 r18 r19 r20 r21 r22 r23 r24 r25 p12)) else (mf_lines_c1_l0 n p12 m r1.2.1 r14 r15 r16 r17 r18 r19 r20 r21 r22 r23 r24 r25))))
def mf_lines_c1 (n:Nat) (p0:Int) (p1:Int) (p2:Int) (p3:ByteArray) (p4:List GBR) (p5:Bool) (p6:Int) (p7:Int) (p8:Int) (p9:ByteArray) (p10:List GBR) (p11:Bool) (p12:ByteArray):Option mf_lines_c1_R:=match n with
 | 0=>none
 | n+1=>mf_lines_c1_l0 n p12 n p12 p0 p1 p2 p3 p4 p5 p6 p7 p8 p9 p10 p11
def mf_parse_s0 (n:Nat) (r3:Int) (r4:Int) (r5:Int) (r6:ByteArray) (r7:List GBR) (r8:Bool) (r9:Int) (r10:Int) (r11:Int) (r12:ByteArray) (r13:List GBR) (r14:Bool) (r15:ByteArray):Option (GMf×Bool):=some ((⟨r9,r10,r11,r12,r13⟩:GMf),true)
def mf_parse (n:Nat) (p0:ByteArray):Option (GMf×Bool):=match n with
 | 0=>none
 | n+1=>(mf_lines n p0).bind fun r1=>((mf_lines_c1 n 0 0 0 bE [] false 0 0 0 bE [] true r1).bind fun r2=>(match r2 with | .c0 r3 r4 r5 r6 r7 r8 r9 r10 r11 r12 r13 r14 r15=>mf_parse_s0 n r3 r4 r5 r6 r7 r8 r9 r10 r11 r12 r13 r14 r15 | .c1 r16 r17 r18 r19 r20 r21 r22 r23 r24 r25 r26 r27=>some ((⟨r16,r17,r18,r19,r20⟩:GMf),false)))
def mf_Decode (n:Nat) (p0:ByteArray):Option (GMf×Int):=match n with
 | 0=>none
 | n+1=>(crc32c_Open n p0).bind fun r1=>(bif (r1.2 != 0) then (some ((⟨0,0,0,bE,[]⟩:GMf),r1.2)) else ((mf_parse n r1.1).bind fun r2=>(bif (!r2.2) then (some ((⟨0,0,0,bE,[]⟩:GMf),12)) else ((mf_Encode n r2.1).bind fun r3=>(bif (r3.2 != 0) then (some ((⟨0,0,0,bE,[]⟩:GMf),12)) else (bif (sNe r3.1 p0) then (some ((⟨0,0,0,bE,[]⟩:GMf),12)) else (some (r2.1,0))))))))
def r24_Same_l0 (n:Nat) (p0:GMf) (p1:GMf):Nat→Int→Option Bool
 | 0,_=>none
 | m+1,i1=>bif (decide (i1<(p0.Blocks.length:Int))) then (bif (decide ((0:Int)≤i1)&&decide (i1<(p0.Blocks.length:Int))) then (bif (decide ((0:Int)≤i1)&&decide (i1<(p1.Blocks.length:Int))) then (bif (!(((p0.Blocks.getD i1.toNat dGBR).Id==(p1.Blocks.getD i1.toNat dGBR).Id)&&(((p0.Blocks.getD i1.toNat dGBR).Width==(p1.Blocks.getD i1.toNat dGBR).Width)&&(((p0.Blocks.getD i1.toNat dGBR).File==(p1.Blocks.getD i1.toNat dGBR).File)&&(((p0.Blocks.getD i1.toNat dGBR).MinTime==(p1.Blocks.getD i1.toNat dGBR).MinTime)&&(((p0.Blocks.getD i1.toNat dGBR).MaxTime==(p1.Blocks.getD i1.toNat dGBR).MaxTime)&&(((p0.Blocks.getD i1.toNat dGBR).Size==(p1.Blocks.getD i1.toNat dGBR).Size)&&true))))))) then (some false) else (r24_Same_l0 n p0 p1 m (IntKind.wrap .i64 (i1+1)))) else none) else none) else (some true)
def r24_Same (n:Nat) (p0:GMf) (p1:GMf):Option Bool:=match n with
 | 0=>none
 | n+1=>bif (p0.Version != p1.Version) then (some false) else (bif (p0.Next != p1.Next) then (some false) else (bif (p0.RawFrom != p1.RawFrom) then (some false) else (bif (sNe p0.Log p1.Log) then (some false) else (bif ((p0.Blocks.length:Int) != (p1.Blocks.length:Int)) then (some false) else (r24_Same_l0 n p0 p1 n 0)))))
def w24_awake (n:Nat):Option Bool:=match n with
 | 0=>none
 | n+1=>(w24_sample n).bind fun r1=>((mf_Encode n r1).bind fun r2=>((mf_Decode n r2.1).bind fun r3=>(bif (r2.2==0) then (bif (r3.2==0) then (bif ((r2.1.size:Int)==51) then (bif (decide ((0:Int)≤0)&&decide ((0:Int)≤47)&&decide ((47:Int)≤(r2.1.size:Int))) then (bif (sEq (ByteArray.extract r2.1 0 47) (⟨#[109,97,110,105,102,101,115,116,32,49,32,51,32,48,32,119,97,108,46,49,10,98,108,111,99,107,32,50,32,48,32,53,32,57,32,49,48,48,32,98,108,111,99,107,46,50,10]⟩:ByteArray)) then ((w24_sample n).bind fun r4=>((r24_Same n r3.1 r4).bind fun r5=>(some r5))) else (some false)) else none) else (some false)) else (some false)) else (some false))))
def r22_Great_s5 (n:Nat) (i9:Int):Option Bool:=some (decide (i9>60000))
def r22_Great_l4 (n:Nat) (p0:GDisk):Nat→Int→Int→Option Bool
 | 0,_,_=>none
 | m+1,i7,i8=>bif (decide (i8<(p0.Pending.length:Int))) then (bif (decide ((0:Int)≤i8)&&decide (i8<(p0.Pending.length:Int))) then (bif (decide ((((p0.Pending.getD i8.toNat dGDO).Name).size:Int)>100)) then (some true) else (bif (decide ((0:Int)≤i8)&&decide (i8<(p0.Pending.length:Int))) then (bif (decide ((((p0.Pending.getD i8.toNat dGDO).To).size:Int)>100)) then (some true) else (r22_Great_l4 n p0 m i7 (IntKind.wrap .i64 (i8+1)))) else none)) else none) else (r22_Great_s5 n i7)
def r22_Great_s3 (n:Nat) (p0:GDisk) (i6:Int):Option Bool:=r22_Great_l4 n p0 n i6 0
def r22_Great_l2 (n:Nat) (p0:GDisk):Nat→Int→Int→Option Bool
 | 0,_,_=>none
 | m+1,i4,i5=>bif (decide (i5<(p0.Durable.length:Int))) then (bif (decide ((0:Int)≤i5)&&decide (i5<(p0.Durable.length:Int))) then (bif (decide ((((p0.Durable.getD i5.toNat dGDE).Name).size:Int)>100)) then (some true) else (r22_Great_l2 n p0 m i4 (IntKind.wrap .i64 (i5+1)))) else none) else (r22_Great_s3 n p0 i4)
def r22_Great_s1 (n:Nat) (p0:GDisk) (i3:Int):Option Bool:=r22_Great_l2 n p0 n i3 0
def r22_Great_l0 (n:Nat) (p0:GDisk):Nat→Int→Int→Option Bool
 | 0,_,_=>none
 | m+1,i1,i2=>bif (decide (i2<(p0.Inodes.length:Int))) then (bif (decide ((0:Int)≤i2)&&decide (i2<(p0.Inodes.length:Int))) then (bif (decide ((((p0.Inodes.getD i2.toNat dGI).Data).size:Int)>20000)) then (some true) else (bif (decide ((0:Int)≤i2)&&decide (i2<(p0.Inodes.length:Int))) then (r22_Great_l0 n p0 m (IntKind.wrap .i64 (i1+(((p0.Inodes.getD i2.toNat dGI).Data).size:Int))) (IntKind.wrap .i64 (i2+1))) else none)) else none) else (r22_Great_s1 n p0 i1)
def r22_Great (n:Nat) (p0:GDisk):Option Bool:=match n with
 | 0=>none
 | n+1=>bif (decide ((p0.Inodes.length:Int)>40)) then (some true) else (bif (decide ((p0.Durable.length:Int)>40)) then (some true) else (bif (decide ((p0.Pending.length:Int)>40)) then (some true) else (r22_Great_l0 n p0 n 0 0)))
def dk_isName_s1 (n:Nat) (k_l0:Int→Int→Option Bool) (p0:ByteArray) (i1:Int) (i2:Int) (b1:Bool) (i4:Int):Option Bool:=bif (!b1) then (bif (decide (i2<48)) then (bif (i2 != 46) then (bif (i2 != 95) then (bif (i2 != 45) then (some false) else (k_l0 i1 (IntKind.wrap .i64 (i4+1)))) else (k_l0 i1 (IntKind.wrap .i64 (i4+1)))) else (k_l0 i1 (IntKind.wrap .i64 (i4+1)))) else (bif (decide (i2>57)) then (bif (i2 != 46) then (bif (i2 != 95) then (bif (i2 != 45) then (some false) else (k_l0 i1 (IntKind.wrap .i64 (i4+1)))) else (k_l0 i1 (IntKind.wrap .i64 (i4+1)))) else (k_l0 i1 (IntKind.wrap .i64 (i4+1)))) else (k_l0 i1 (IntKind.wrap .i64 (i4+1))))) else (k_l0 i1 (IntKind.wrap .i64 (i4+1)))
def dk_isName_l0 (n:Nat) (p0:ByteArray):Nat→Int→Int→Option Bool
 | 0,_,_=>none
 | m+1,i1,i3=>bif (decide (i3<i1)) then (bif (decide ((0:Int)≤i3)&&decide (i3<(p0.size:Int))) then (bif (decide ((bt p0 i3.toNat)≥65)) then (bif (decide ((bt p0 i3.toNat)≤90)) then (dk_isName_s1 n (fun a0 a1=>dk_isName_l0 n p0 m a0 a1) p0 i1 (bt p0 i3.toNat) true i3) else (bif (decide ((bt p0 i3.toNat)≥97)) then (dk_isName_s1 n (fun a0 a1=>dk_isName_l0 n p0 m a0 a1) p0 i1 (bt p0 i3.toNat) (decide ((bt p0 i3.toNat)≤122)) i3) else (dk_isName_s1 n (fun a0 a1=>dk_isName_l0 n p0 m a0 a1) p0 i1 (bt p0 i3.toNat) false i3))) else (bif (decide ((bt p0 i3.toNat)≥97)) then (dk_isName_s1 n (fun a0 a1=>dk_isName_l0 n p0 m a0 a1) p0 i1 (bt p0 i3.toNat) (decide ((bt p0 i3.toNat)≤122)) i3) else (dk_isName_s1 n (fun a0 a1=>dk_isName_l0 n p0 m a0 a1) p0 i1 (bt p0 i3.toNat) false i3))) else none) else (some true)
def dk_isName (n:Nat) (p0:ByteArray):Option Bool:=match n with
 | 0=>none
 | n+1=>bif (decide ((p0.size:Int)<1)) then (some false) else (bif (decide ((p0.size:Int)>60)) then (some false) else (dk_isName_l0 n p0 n (p0.size:Int) 0))
def dk_durable_s1 (n:Nat) (p0:GDisk) (l1:List Bool) (l3:List (ByteArray×Int)):Option (Nat×Bool×(List (ByteArray×Int))×(List Bool)):=some (p0.Inodes.length,true,l3,l1)
def dk_durable_l0 (n:Nat) (p0:GDisk):Nat→Int→Int→(List (ByteArray×Int))→(List Bool)→Option (Nat×Bool×(List (ByteArray×Int))×(List Bool))
 | 0,_,_,_,_=>none
 | m+1,i1,i2,l2,l1=>bif (decide (i2<i1)) then (bif (decide ((0:Int)≤i2)&&decide (i2<(p0.Durable.length:Int))) then ((dk_isName n ((p0.Durable.getD i2.toNat dGDE).Name)).bind fun r1=>(bif (!r1) then (some (p0.Inodes.length,false,l2,l1)) else (bif (decide (i2>0)) then (bif (decide ((0:Int)≤(IntKind.wrap .i64 (i2-1)))&&decide ((IntKind.wrap .i64 (i2-1))<(p0.Durable.length:Int))) then (bif (sLe ((p0.Durable.getD i2.toNat dGDE).Name) ((p0.Durable.getD ((IntKind.wrap .i64 (i2-1)).toNat) dGDE).Name)) then (some (p0.Inodes.length,false,l2,l1)) else (bif (decide ((p0.Durable.getD i2.toNat dGDE).Inode<0)) then (some (p0.Inodes.length,false,l2,l1)) else (bif (decide ((p0.Durable.getD i2.toNat dGDE).Inode≥(p0.Inodes.length:Int))) then (some (p0.Inodes.length,false,l2,l1)) else (bif (decide ((0:Int)≤(p0.Durable.getD i2.toNat dGDE).Inode)&&decide ((p0.Durable.getD i2.toNat dGDE).Inode<(p0.Inodes.length:Int))) then (bif Nat.blt (((p0.Durable.getD i2.toNat dGDE).Inode).toNat) l1.length then (bif (l1.getD (((p0.Durable.getD i2.toNat dGDE).Inode).toNat) false) then (some (p0.Inodes.length,false,l2,l1)) else (bif (decide ((0:Int)≤(p0.Durable.getD i2.toNat dGDE).Inode)&&decide ((p0.Durable.getD i2.toNat dGDE).Inode<(p0.Inodes.length:Int))) then (bif Nat.blt (((p0.Durable.getD i2.toNat dGDE).Inode).toNat) l1.length then (dk_durable_l0 n p0 m i1 (IntKind.wrap .i64 (i2+1)) (putL ((p0.Durable.getD i2.toNat dGDE).Name) ((p0.Durable.getD i2.toNat dGDE).Inode) l2) (l1.set (((p0.Durable.getD i2.toNat dGDE).Inode).toNat) true)) else none) else none)) else none) else none)))) else none) else (bif (decide ((p0.Durable.getD i2.toNat dGDE).Inode<0)) then (some (p0.Inodes.length,false,l2,l1)) else (bif (decide ((p0.Durable.getD i2.toNat dGDE).Inode≥(p0.Inodes.length:Int))) then (some (p0.Inodes.length,false,l2,l1)) else (bif (decide ((0:Int)≤(p0.Durable.getD i2.toNat dGDE).Inode)&&decide ((p0.Durable.getD i2.toNat dGDE).Inode<(p0.Inodes.length:Int))) then (bif Nat.blt (((p0.Durable.getD i2.toNat dGDE).Inode).toNat) l1.length then (bif (l1.getD (((p0.Durable.getD i2.toNat dGDE).Inode).toNat) false) then (some (p0.Inodes.length,false,l2,l1)) else (bif (decide ((0:Int)≤(p0.Durable.getD i2.toNat dGDE).Inode)&&decide ((p0.Durable.getD i2.toNat dGDE).Inode<(p0.Inodes.length:Int))) then (bif Nat.blt (((p0.Durable.getD i2.toNat dGDE).Inode).toNat) l1.length then (dk_durable_l0 n p0 m i1 (IntKind.wrap .i64 (i2+1)) (putL ((p0.Durable.getD i2.toNat dGDE).Name) ((p0.Durable.getD i2.toNat dGDE).Inode) l2) (l1.set (((p0.Durable.getD i2.toNat dGDE).Inode).toNat) true)) else none) else none)) else none) else none)))))) else none) else (dk_durable_s1 n p0 l1 l2)
def dk_durable (n:Nat) (p0:GDisk):Option (Nat×Bool×(List (ByteArray×Int))×(List Bool)):=match n with
 | 0=>none
 | n+1=>bif (decide (0≤(p0.Inodes.length:Int))&&decide ((p0.Inodes.length:Int)*1≤140737488355328)&&decide ((p0.Inodes.length:Int)≤9223372036854775807)) then (dk_durable_l0 n p0 n (p0.Durable.length:Int) 0 [] (List.replicate p0.Inodes.length false)) else none
inductive dk_operationOf_R where
 | c0
 | c1
 | c2
 | c3
def dk_operationOf (n:Nat) (p0:Int):Option dk_operationOf_R:=match n with
 | 0=>none
 | n+1=>bif (p0==1) then (some dk_operationOf_R.c0) else (bif (p0==2) then (some dk_operationOf_R.c1) else (bif (p0==3) then (some dk_operationOf_R.c2) else (some dk_operationOf_R.c3)))
def dk_mayCreate (n:Nat) (p0:Nat) (p1:GDO) (p2:List (ByteArray×Int)) (p3:List Bool):Option (Bool×(List (ByteArray×Int))×(List Bool)):=match n with
 | 0=>none
 | n+1=>(dk_isName n p1.Name).bind fun r1=>(bif r1 then (bif (!(lk p1.Name p2).isSome) then (bif (sEq p1.To bE) then (bif (decide (p1.Inode≥0)) then (bif (decide (p1.Inode<(p0:Int))) then (bif (decide ((0:Int)≤p1.Inode)&&decide (p1.Inode<(p0:Int))) then (bif Nat.blt p1.Inode.toNat p3.length then (some ((!(p3.getD p1.Inode.toNat false)),p2,p3)) else none) else none) else (some (false,p2,p3))) else (some (false,p2,p3))) else (some (false,p2,p3))) else (some (false,p2,p3))) else (some (false,p2,p3)))
def dk_create (n:Nat) (p0:Nat) (p1:GDO) (p2:List (ByteArray×Int)) (p3:List Bool):Option ((List (ByteArray×Int))×(List Bool)):=match n with
 | 0=>none
 | n+1=>bif (decide ((0:Int)≤p1.Inode)&&decide (p1.Inode<(p0:Int))) then (bif Nat.blt p1.Inode.toNat p3.length then (some ((putL p1.Name p1.Inode p2),(p3.set p1.Inode.toNat true))) else none) else none
def dk_mayRename (n:Nat) (p0:Nat) (p1:GDO) (p2:List (ByteArray×Int)) (p3:List Bool):Option (Bool×(List (ByteArray×Int))×(List Bool)):=match n with
 | 0=>none
 | n+1=>bif (lk p1.Name p2).isSome then ((dk_isName n p1.To).bind fun r1=>(bif r1 then (bif (sNe p1.To p1.Name) then (some ((p1.Inode==0),p2,p3)) else (some (false,p2,p3))) else (some (false,p2,p3)))) else (some (false,p2,p3))
def dk_rename_s0 (n:Nat) (p0:Nat) (p1:GDO) (p2:List (ByteArray×Int)) (l1:List Bool):Option ((List (ByteArray×Int))×(List Bool)):=some ((delL p1.Name (putL p1.To ((lk p1.Name p2).getD 0) p2)),l1)
def dk_rename (n:Nat) (p0:Nat) (p1:GDO) (p2:List (ByteArray×Int)) (p3:List Bool):Option ((List (ByteArray×Int))×(List Bool)):=match n with
 | 0=>none
 | n+1=>bif (lk p1.To p2).isSome then (bif (decide ((0:Int)≤((lk p1.To p2).getD 0))&&decide (((lk p1.To p2).getD 0)<(p0:Int))) then (bif Nat.blt (((lk p1.To p2).getD 0).toNat) p3.length then (dk_rename_s0 n p0 p1 p2 (p3.set (((lk p1.To p2).getD 0).toNat) false)) else none) else none) else (dk_rename_s0 n p0 p1 p2 p3)
def dk_mayRemove (n:Nat) (p0:Nat) (p1:GDO) (p2:List (ByteArray×Int)) (p3:List Bool):Option (Bool×(List (ByteArray×Int))×(List Bool)):=match n with
 | 0=>none
 | n+1=>bif (lk p1.Name p2).isSome then (bif (sEq p1.To bE) then (some ((p1.Inode==0),p2,p3)) else (some (false,p2,p3))) else (some (false,p2,p3))
def dk_remove (n:Nat) (p0:Nat) (p1:GDO) (p2:List (ByteArray×Int)) (p3:List Bool):Option ((List (ByteArray×Int))×(List Bool)):=match n with
 | 0=>none
 | n+1=>bif (decide ((0:Int)≤((lk p1.Name p2).getD 0))&&decide (((lk p1.Name p2).getD 0)<(p0:Int))) then (bif Nat.blt (((lk p1.Name p2).getD 0).toNat) p3.length then (some ((delL p1.Name p2),(p3.set (((lk p1.Name p2).getD 0).toNat) false))) else none) else none
inductive dk_current_R where
 | c0 (a0:List Bool)
 | c1 (a0:List Bool) (a1:List (ByteArray×Int)) (a2:List Bool)
 | c2 (a0:Nat) (a1:List (ByteArray×Int)) (a2:List Bool)
def dk_current_s3 (n:Nat) (r1:Nat×Bool×(List (ByteArray×Int))×(List Bool)) (l3:List (ByteArray×Int)) (l4:List Bool):Option dk_current_R:=some (dk_current_R.c2 r1.1 l3 l4)
def dk_current_l2 (n:Nat) (r1:Nat×Bool×(List (ByteArray×Int))×(List Bool)) (p0:GDisk):Nat→Int→Int→(List (ByteArray×Int))→(List Bool)→Option dk_current_R
 | 0,_,_,_,_=>none
 | m+1,i2,i4,l1,l2=>bif (decide (i4<i2)) then (bif (decide ((0:Int)≤i4)&&decide (i4<(p0.Pending.length:Int))) then ((dk_operationOf n ((p0.Pending.getD i4.toNat dGDO).Kind)).bind fun r2=>(match r2 with | .c0=>(dk_mayCreate n r1.1 (p0.Pending.getD i4.toNat dGDO) l1 l2).bind fun r3=>(bif (!r3.1) then (some (dk_current_R.c1 [] r3.2.1 r3.2.2)) else ((dk_create n r1.1 (p0.Pending.getD i4.toNat dGDO) r3.2.1 r3.2.2).bind fun r4=>(dk_current_l2 n r1 p0 m i2 (IntKind.wrap .i64 (i4+1)) r4.1 r4.2))) | .c1=>(dk_mayRename n r1.1 (p0.Pending.getD i4.toNat dGDO) l1 l2).bind fun r5=>(bif (!r5.1) then (some (dk_current_R.c1 [] r5.2.1 r5.2.2)) else ((dk_rename n r1.1 (p0.Pending.getD i4.toNat dGDO) r5.2.1 r5.2.2).bind fun r6=>(dk_current_l2 n r1 p0 m i2 (IntKind.wrap .i64 (i4+1)) r6.1 r6.2))) | .c2=>(dk_mayRemove n r1.1 (p0.Pending.getD i4.toNat dGDO) l1 l2).bind fun r7=>(bif (!r7.1) then (some (dk_current_R.c1 [] r7.2.1 r7.2.2)) else ((dk_remove n r1.1 (p0.Pending.getD i4.toNat dGDO) r7.2.1 r7.2.2).bind fun r8=>(dk_current_l2 n r1 p0 m i2 (IntKind.wrap .i64 (i4+1)) r8.1 r8.2))) | .c3=>some (dk_current_R.c1 [] l1 l2))) else none) else (dk_current_s3 n r1 l1 l2)
def dk_current_s1 (n:Nat) (p0:GDisk):Option dk_current_R:=(dk_durable n p0).bind fun r1=>(bif (!r1.2.1) then (some (dk_current_R.c1 [] r1.2.2.1 r1.2.2.2)) else (dk_current_l2 n r1 p0 n (p0.Pending.length:Int) 0 r1.2.2.1 r1.2.2.2))
def dk_current_l0 (n:Nat) (p0:GDisk):Nat→Int→Int→Option dk_current_R
 | 0,_,_=>none
 | m+1,i1,i3=>bif (decide (i3<i1)) then (bif (decide ((0:Int)≤i3)&&decide (i3<(p0.Inodes.length:Int))) then (bif (decide ((((p0.Inodes.getD i3.toNat dGI).Data).size:Int)>1048576)) then (some (dk_current_R.c0 [])) else (bif (decide ((p0.Inodes.getD i3.toNat dGI).Synced<0)) then (some (dk_current_R.c0 [])) else (bif (decide ((p0.Inodes.getD i3.toNat dGI).Synced>(((p0.Inodes.getD i3.toNat dGI).Data).size:Int))) then (some (dk_current_R.c0 [])) else (dk_current_l0 n p0 m i1 (IntKind.wrap .i64 (i3+1)))))) else none) else (dk_current_s1 n p0)
def dk_current (n:Nat) (p0:GDisk):Option dk_current_R:=match n with
 | 0=>none
 | n+1=>bif (decide ((p0.Inodes.length:Int)>1000)) then (some (dk_current_R.c0 [])) else (bif (decide ((p0.Pending.length:Int)>1000)) then (some (dk_current_R.c0 [])) else (bif (decide (p0.Left<(-1))) then (some (dk_current_R.c0 [])) else (dk_current_l0 n p0 n (p0.Inodes.length:Int) 0)))
def maps_Keys (n:Nat) (p0:List (ByteArray×Int)):Option (List (ByteArray×Int)):=match n with
 | 0=>none
 | n+1=>some p0
inductive dk_List_m_R where
 | c0 (a0:List ByteArray)
 | c1 (a0:List ByteArray) (a1:List (ByteArray×Int)) (a2:List Bool)
 | c2 (a0:List ByteArray) (a1:List (ByteArray×Int)) (a2:List Bool)
 | c3 (a0:Nat) (a1:List (ByteArray×Int)) (a2:List Bool) (a3:List ByteArray)
def dk_List_m (n:Nat) (p0:GDisk):Option dk_List_m_R:=match n with
 | 0=>none
 | n+1=>(dk_current n p0).bind fun r1=>(match r1 with | .c0 r2=>some (dk_List_m_R.c0 []) | .c1 r3 r4 r5=>some (dk_List_m_R.c1 [] r4 r5) | .c2 r6 r7 r8=>(maps_Keys n r7).bind fun r9=>((sortedM n r9).bind fun r10=>(match r10 with | .nil0=>some (dk_List_m_R.c2 [] r9 r8) | .row r11=>some (dk_List_m_R.c3 r11.length r9 r8 r11))))
def mf_Garbage_c1_c1 (n:Nat) (p0:GBR) (p1:ByteArray):Option Bool:=match n with
 | 0=>none
 | n+1=>some (sEq p0.File p1)
def sl_IndexFunc_55_l0 (n:Nat) (p0:List GBR) (p1:ByteArray):Nat→Int→Int→Option Int
 | 0,_,_=>none
 | m+1,i1,i2=>bif (decide (i2<i1)) then (bif (decide ((0:Int)≤i2)&&decide (i2<(p0.length:Int))) then ((mf_Garbage_c1_c1 n (p0.getD i2.toNat dGBR) p1).bind fun r1=>(bif r1 then (some i2) else (sl_IndexFunc_55_l0 n p0 p1 m i1 (IntKind.wrap .i64 (i2+1))))) else none) else (some (-1))
def sl_IndexFunc_55 (n:Nat) (p0:List GBR) (p1:ByteArray):Option Int:=match n with
 | 0=>none
 | n+1=>sl_IndexFunc_55_l0 n p0 p1 n (p0.length:Int) 0
def sl_ContainsFunc (n:Nat) (p0:List GBR) (p1:ByteArray):Option Bool:=match n with
 | 0=>none
 | n+1=>(sl_IndexFunc_55 n p0 p1).bind fun r1=>(some (decide (r1≥0)))
def mf_Garbage_c1 (n:Nat) (p0:ByteArray) (p1:GMf):Option Bool:=match n with
 | 0=>none
 | n+1=>bif (sEq p0 (⟨#[77,65,78,73,70,69,83,84]⟩:ByteArray)) then (some true) else (bif (sEq p0 p1.Log) then (some true) else ((sl_ContainsFunc n p1.Blocks p0).bind fun r1=>(some r1)))
def sl_IndexFunc_l0 (n:Nat) (p0:List ByteArray) (p1:GMf):Nat→Int→Int→Option Int
 | 0,_,_=>none
 | m+1,i1,i2=>bif (decide (i2<i1)) then (bif (decide ((0:Int)≤i2)&&decide (i2<(p0.length:Int))) then ((mf_Garbage_c1 n (p0.getD i2.toNat bE) p1).bind fun r1=>(bif r1 then (some i2) else (sl_IndexFunc_l0 n p0 p1 m i1 (IntKind.wrap .i64 (i2+1))))) else none) else (some (-1))
def sl_IndexFunc (n:Nat) (p0:List ByteArray) (p1:GMf):Option Int:=match n with
 | 0=>none
 | n+1=>sl_IndexFunc_l0 n p0 p1 n (p0.length:Int) 0
def sl_DeleteFunc_s1 (n:Nat) (k_l0:Int→Option (List ByteArray)) (p0:List ByteArray) (p1:GMf) (r1:Int) (i1:Int):Option (List ByteArray):=k_l0 (IntKind.wrap .i64 (i1+1))
def sl_DeleteFunc_s2 (n:Nat) (p0:List ByteArray) (r1:Int):Option (List ByteArray):=bif (decide ((0:Int)≤r1)&&decide (r1≤(p0.length:Int))&&decide ((p0.length:Int)≤(p0.length:Int))) then (none) else none
def sl_DeleteFunc_l0 (n:Nat) (p0:List ByteArray) (p1:GMf) (r1:Int):Nat→Int→Option (List ByteArray)
 | 0,_=>none
 | m+1,i1=>bif (decide (i1<(p0.length:Int))) then (bif (decide ((0:Int)≤i1)&&decide (i1<(p0.length:Int))) then ((mf_Garbage_c1 n (p0.getD i1.toNat bE) p1).bind fun r2=>(bif (!r2) then (bif (decide ((0:Int)≤r1)&&decide (r1<(p0.length:Int))) then (none) else none) else (sl_DeleteFunc_s1 n (fun a0=>sl_DeleteFunc_l0 n p0 p1 r1 m a0) p0 p1 r1 i1))) else none) else (sl_DeleteFunc_s2 n p0 r1)
def sl_DeleteFunc (n:Nat) (p0:List ByteArray) (p1:GMf):Option (List ByteArray):=match n with
 | 0=>none
 | n+1=>(sl_IndexFunc n p0 p1).bind fun r1=>(bif (r1==(-1)) then (some p0) else (sl_DeleteFunc_l0 n p0 p1 r1 n (IntKind.wrap .i64 (r1+1))))
def sl_IndexFunc_v1_l0 (n:Nat) (p0:Nat) (p1:GMf) (p2:List ByteArray):Nat→Int→Int→Option (Int×(List ByteArray))
 | 0,_,_=>none
 | m+1,i1,i2=>bif (decide (i2<i1)) then (bif (decide ((0:Int)≤i2)&&decide (i2<(p0:Int))) then (bif Nat.blt i2.toNat p2.length then ((mf_Garbage_c1 n (p2.getD i2.toNat bE) p1).bind fun r2=>(bif r2 then (some (i2,p2)) else (sl_IndexFunc_v1_l0 n p0 p1 p2 m i1 (IntKind.wrap .i64 (i2+1))))) else none) else none) else (some ((-1),p2))
def sl_IndexFunc_v1 (n:Nat) (p0:Nat) (p1:GMf) (p2:List ByteArray):Option (Int×(List ByteArray)):=match n with
 | 0=>none
 | n+1=>sl_IndexFunc_v1_l0 n p0 p1 p2 n (p0:Int) 0
inductive sl_DeleteFunc_v1_R where
 | c0 (a0:Nat) (a1:List ByteArray)
 | c1 (a0:List ByteArray) (a1:List ByteArray)
def sl_DeleteFunc_v1_s1 (n:Nat) (k_l0:Int→Int→(List ByteArray)→Option sl_DeleteFunc_v1_R) (p0:Nat) (p1:GMf) (i1:Int) (i2:Int) (l1:List ByteArray):Option sl_DeleteFunc_v1_R:=k_l0 i2 (IntKind.wrap .i64 (i1+1)) l1
def sl_DeleteFunc_v1_s2 (n:Nat) (p0:Nat) (i4:Int) (l3:List ByteArray):Option sl_DeleteFunc_v1_R:=bif (decide ((0:Int)≤i4)&&decide (i4≤(p0:Int))&&decide ((p0:Int)≤(p0:Int))) then (bif (decide (i4.toNat<p0)) then (bif Nat.ble (i4.toNat+(p0-i4.toNat)) l3.length then (bif (decide ((0:Int)≤0)&&decide (0≤i4)&&decide (i4≤(p0:Int))) then (bif (decide (0<i4.toNat)) then (some (sl_DeleteFunc_v1_R.c0 i4.toNat (clrL i4.toNat (p0-i4.toNat) bE l3))) else (some (sl_DeleteFunc_v1_R.c1 [] (clrL i4.toNat (p0-i4.toNat) bE l3)))) else none) else none) else (bif (decide ((0:Int)≤0)&&decide (0≤i4)&&decide (i4≤(p0:Int))) then (bif (decide (0<i4.toNat)) then (some (sl_DeleteFunc_v1_R.c0 i4.toNat l3)) else (some (sl_DeleteFunc_v1_R.c1 [] l3))) else none)) else none
def sl_DeleteFunc_v1_l0 (n:Nat) (p0:Nat) (p1:GMf):Nat→Int→Int→(List ByteArray)→Option sl_DeleteFunc_v1_R
 | 0,_,_,_=>none
 | m+1,i3,i1,l2=>bif (decide (i1<(p0:Int))) then (bif (decide ((0:Int)≤i1)&&decide (i1<(p0:Int))) then (bif Nat.blt i1.toNat l2.length then ((mf_Garbage_c1 n (l2.getD i1.toNat bE) p1).bind fun r3=>(bif (!r3) then (bif (decide ((0:Int)≤i3)&&decide (i3<(p0:Int))) then (bif Nat.blt i3.toNat l2.length then (sl_DeleteFunc_v1_s1 n (fun a0 a1 a2=>sl_DeleteFunc_v1_l0 n p0 p1 m a0 a1 a2) p0 p1 i1 (IntKind.wrap .i64 (i3+1)) (l2.set i3.toNat (l2.getD i1.toNat bE))) else none) else none) else (sl_DeleteFunc_v1_s1 n (fun a0 a1 a2=>sl_DeleteFunc_v1_l0 n p0 p1 m a0 a1 a2) p0 p1 i1 i3 l2))) else none) else none) else (sl_DeleteFunc_v1_s2 n p0 i3 l2)
def sl_DeleteFunc_v1 (n:Nat) (p0:Nat) (p1:GMf) (p2:List ByteArray):Option sl_DeleteFunc_v1_R:=match n with
 | 0=>none
 | n+1=>(sl_IndexFunc_v1 n p0 p1 p2).bind fun r1=>(bif (r1.1==(-1)) then (some (sl_DeleteFunc_v1_R.c0 p0 r1.2)) else (sl_DeleteFunc_v1_l0 n p0 p1 n r1.1 (IntKind.wrap .i64 (r1.1+1)) r1.2))
def mf_Garbage (n:Nat) (p0:GDisk) (p1:GMf):Option (List ByteArray):=match n with
 | 0=>none
 | n+1=>(mf_Check n p1).bind fun r1=>(bif (r1 != 0) then (some []) else ((dk_List_m n p0).bind fun r2=>(match r2 with | .c0 r3=>(sl_DeleteFunc n r3 p1).bind fun r4=>(some r4) | .c1 r5 r6 r7=>(sl_DeleteFunc n r5 p1).bind fun r8=>(some r8) | .c2 r9 r10 r11=>(sl_DeleteFunc n r9 p1).bind fun r12=>(some r12) | .c3 r13 r14 r15 r16=>(sl_DeleteFunc_v1 n r13 p1 r16).bind fun r17=>(match r17 with | .c0 r18 r19=>bif Nat.ble r18 r19.length then (some (r19.take r18)) else none | .c1 r20 r21=>some r20))))
def dk_Check (n:Nat) (p0:GDisk):Option Int:=match n with
 | 0=>none
 | n+1=>(dk_current n p0).bind fun r1=>(match r1 with | .c0 r2=>some 1 | .c1 r3 r4 r5=>some 1 | .c2 r6 r7 r8=>some 0)
inductive dk_List_R where
 | c0 (a0:List ByteArray)
 | c1 (a0:List ByteArray) (a1:List (ByteArray×Int)) (a2:List Bool)
 | c2 (a0:List ByteArray) (a1:List (ByteArray×Int)) (a2:List Bool)
def dk_List (n:Nat) (p0:GDisk):Option dk_List_R:=match n with
 | 0=>none
 | n+1=>(dk_current n p0).bind fun r1=>(match r1 with | .c0 r2=>some (dk_List_R.c0 []) | .c1 r3 r4 r5=>some (dk_List_R.c1 [] r4 r5) | .c2 r6 r7 r8=>(maps_Keys n r7).bind fun r9=>((sortedKeys n r9).bind fun r10=>(some (dk_List_R.c2 r10 r9 r8))))
def dk_find (n:Nat) (p0:GDisk) (p1:ByteArray):Option (Int×Int):=match n with
 | 0=>none
 | n+1=>(dk_current n p0).bind fun r1=>(match r1 with | .c0 r2=>some (0,1) | .c1 r3 r4 r5=>some (0,1) | .c2 r6 r7 r8=>bif (!(lk p1 r7).isSome) then (some (0,7)) else (some (((lk p1 r7).getD 0),0)))
def sl_Clip (n:Nat) (p0:List GDO):Option (List GDO):=match n with
 | 0=>none
 | n+1=>bif (decide ((0:Int)≤0)&&decide (0≤(p0.length:Int))&&decide ((p0.length:Int)≤(p0.length:Int))&&decide ((p0.length:Int)=(p0.length:Int))) then (some p0) else none
def dk_pend (n:Nat) (p0:GDisk) (p1:GDO):Option GDisk:=match n with
 | 0=>none
 | n+1=>(sl_Clip n p0.Pending).bind fun r1=>(bif (true&&(decide ((r1.length+1)*48≤140737488355328)&&decide (r1.length+1≤9223372036854775807))) then (some (⟨p0.Inodes,p0.Durable,(r1++[p1]),p0.Left⟩:GDisk)) else none)
def dk_perform_s0 (n:Nat) (p1:GDisk) (i1:Int):Option (GDisk×Int):=some ((⟨p1.Inodes,p1.Durable,p1.Pending,i1⟩:GDisk),0)
def dk_perform (n:Nat) (p0:GDisk) (p1:GDisk):Option (GDisk×Int):=match n with
 | 0=>none
 | n+1=>bif (p0.Left==0) then (some (p0,19)) else (bif (decide (p0.Left>0)) then (dk_perform_s0 n p1 (IntKind.wrap .i64 (p0.Left-1))) else (dk_perform_s0 n p1 p1.Left))
def dk_Remove (n:Nat) (p0:GDisk) (p1:ByteArray):Option (GDisk×Int):=match n with
 | 0=>none
 | n+1=>(dk_find n p0 p1).bind fun r1=>(bif (r1.2 != 0) then (some ((⟨[],[],[],0⟩:GDisk),r1.2)) else (bif (decide ((p0.Pending.length:Int)≥1000)) then (some ((⟨[],[],[],0⟩:GDisk),18)) else ((dk_pend n p0 (⟨3,p1,bE,0⟩:GDO)).bind fun r2=>((dk_perform n p0 r2).bind fun r3=>(some (r3.1,r3.2))))))
def lookoutlaw24_ManifestGarbage_c1_c1 (n:Nat) (p0:GBR) (p1:ByteArray):Option Bool:=match n with
 | 0=>none
 | n+1=>some (sEq p0.File p1)
def sl_IndexFunc_55_v1_l0 (n:Nat) (p0:List GBR) (p1:ByteArray):Nat→Int→Int→Option Int
 | 0,_,_=>none
 | m+1,i1,i2=>bif (decide (i2<i1)) then (bif (decide ((0:Int)≤i2)&&decide (i2<(p0.length:Int))) then ((lookoutlaw24_ManifestGarbage_c1_c1 n (p0.getD i2.toNat dGBR) p1).bind fun r1=>(bif r1 then (some i2) else (sl_IndexFunc_55_v1_l0 n p0 p1 m i1 (IntKind.wrap .i64 (i2+1))))) else none) else (some (-1))
def sl_IndexFunc_55_v1 (n:Nat) (p0:List GBR) (p1:ByteArray):Option Int:=match n with
 | 0=>none
 | n+1=>sl_IndexFunc_55_v1_l0 n p0 p1 n (p0.length:Int) 0
def sl_ContainsFunc_v1 (n:Nat) (p0:List GBR) (p1:ByteArray):Option Bool:=match n with
 | 0=>none
 | n+1=>(sl_IndexFunc_55_v1 n p0 p1).bind fun r1=>(some (decide (r1≥0)))
def lookoutlaw24_ManifestGarbage_c1 (n:Nat) (p0:ByteArray) (p1:GMf):Option Bool:=match n with
 | 0=>none
 | n+1=>bif (sEq p0 (⟨#[77,65,78,73,70,69,83,84]⟩:ByteArray)) then (some true) else (bif (sEq p0 p1.Log) then (some true) else ((sl_ContainsFunc_v1 n p1.Blocks p0).bind fun r1=>(some r1)))
def lookoutlaw24_ManifestGarbage_c2 (n:Nat) (p0:ByteArray) (p1:GMf):Option Bool:=match n with
 | 0=>none
 | n+1=>(lookoutlaw24_ManifestGarbage_c1 n p0 p1).bind fun r1=>(some (!r1))
def sl_IndexFunc_v2_l0 (n:Nat) (p0:List ByteArray) (p1:GMf):Nat→Int→Int→Option Int
 | 0,_,_=>none
 | m+1,i1,i2=>bif (decide (i2<i1)) then (bif (decide ((0:Int)≤i2)&&decide (i2<(p0.length:Int))) then ((lookoutlaw24_ManifestGarbage_c2 n (p0.getD i2.toNat bE) p1).bind fun r1=>(bif r1 then (some i2) else (sl_IndexFunc_v2_l0 n p0 p1 m i1 (IntKind.wrap .i64 (i2+1))))) else none) else (some (-1))
def sl_IndexFunc_v2 (n:Nat) (p0:List ByteArray) (p1:GMf):Option Int:=match n with
 | 0=>none
 | n+1=>sl_IndexFunc_v2_l0 n p0 p1 n (p0.length:Int) 0
def sl_ContainsFunc_24 (n:Nat) (p0:List ByteArray) (p1:GMf):Option Bool:=match n with
 | 0=>none
 | n+1=>(sl_IndexFunc_v2 n p0 p1).bind fun r1=>(some (decide (r1≥0)))
def sl_IndexFunc_v3_l0 (n:Nat) (p0:List ByteArray) (p1:GMf):Nat→Int→Int→Option Int
 | 0,_,_=>none
 | m+1,i1,i2=>bif (decide (i2<i1)) then (bif (decide ((0:Int)≤i2)&&decide (i2<(p0.length:Int))) then ((lookoutlaw24_ManifestGarbage_c1 n (p0.getD i2.toNat bE) p1).bind fun r1=>(bif r1 then (some i2) else (sl_IndexFunc_v3_l0 n p0 p1 m i1 (IntKind.wrap .i64 (i2+1))))) else none) else (some (-1))
def sl_IndexFunc_v3 (n:Nat) (p0:List ByteArray) (p1:GMf):Option Int:=match n with
 | 0=>none
 | n+1=>sl_IndexFunc_v3_l0 n p0 p1 n (p0.length:Int) 0
def sl_ContainsFunc_24_v1 (n:Nat) (p0:List ByteArray) (p1:GMf):Option Bool:=match n with
 | 0=>none
 | n+1=>(sl_IndexFunc_v3 n p0 p1).bind fun r1=>(some (decide (r1≥0)))
def lookoutlaw24_ManifestGarbage_l0 (n:Nat) (r5:(List ByteArray)) (r11:List ByteArray):Nat→(List GI)→(List GDE)→(List GDO)→Int→GMf→Int→Int→Option Bool
 | 0,_,_,_,_,_,_,_=>none
 | m+1,l1,l2,l3,i4,x1,i1,i5=>bif (decide (i5<i1)) then (bif (decide ((0:Int)≤i5)&&decide (i5<(r5.length:Int))) then ((dk_Remove n (⟨l1,l2,l3,i4⟩:GDisk) (r5.getD i5.toNat bE)).bind fun r12=>(bif (r12.2==18) then ((w24_awake n).bind fun r13=>(some r13)) else (bif (r12.2 != 0) then (some false) else (lookoutlaw24_ManifestGarbage_l0 n r5 r11 m r12.1.Inodes r12.1.Durable r12.1.Pending r12.1.Left x1 i1 (IntKind.wrap .i64 (i5+1)))))) else none) else ((dk_List n (⟨l1,l2,l3,i4⟩:GDisk)).bind fun r14=>(match r14 with | .c0 r15=>(sl_ContainsFunc_24 n r15 x1).bind fun r16=>(bif (!r16) then ((sl_ContainsFunc_24_v1 n r5 x1).bind fun r17=>(bif (!r17) then (bif ((r11.length:Int)==(IntKind.wrap .i64 ((r15.length:Int)+(r5.length:Int)))) then ((w24_awake n).bind fun r18=>(some r18)) else (some false)) else (some false))) else (some false)) | .c1 r19 r20 r21=>(sl_ContainsFunc_24 n r19 x1).bind fun r22=>(bif (!r22) then ((sl_ContainsFunc_24_v1 n r5 x1).bind fun r23=>(bif (!r23) then (bif ((r11.length:Int)==(IntKind.wrap .i64 ((r19.length:Int)+(r5.length:Int)))) then ((w24_awake n).bind fun r24=>(some r24)) else (some false)) else (some false))) else (some false)) | .c2 r25 r26 r27=>(sl_ContainsFunc_24 n r25 x1).bind fun r28=>(bif (!r28) then ((sl_ContainsFunc_24_v1 n r5 x1).bind fun r29=>(bif (!r29) then (bif ((r11.length:Int)==(IntKind.wrap .i64 ((r25.length:Int)+(r5.length:Int)))) then ((w24_awake n).bind fun r30=>(some r30)) else (some false)) else (some false))) else (some false))))
def lookoutlaw24_ManifestGarbage_l1 (n:Nat) (p1:GMf) (r5:(List ByteArray)) (r31:List ByteArray) (r32:List (ByteArray×Int)) (r33:List Bool):Nat→(List GI)→(List GDE)→(List GDO)→Int→Int→Int→Option Bool
 | 0,_,_,_,_,_,_=>none
 | m+1,l4,l5,l6,i6,i2,i7=>bif (decide (i7<i2)) then (bif (decide ((0:Int)≤i7)&&decide (i7<(r5.length:Int))) then ((dk_Remove n (⟨l4,l5,l6,i6⟩:GDisk) (r5.getD i7.toNat bE)).bind fun r34=>(bif (r34.2==18) then ((w24_awake n).bind fun r35=>(some r35)) else (bif (r34.2 != 0) then (some false) else (lookoutlaw24_ManifestGarbage_l1 n p1 r5 r31 r32 r33 m r34.1.Inodes r34.1.Durable r34.1.Pending r34.1.Left i2 (IntKind.wrap .i64 (i7+1)))))) else none) else ((dk_List n (⟨l4,l5,l6,i6⟩:GDisk)).bind fun r36=>(match r36 with | .c0 r37=>(sl_ContainsFunc_24 n r37 p1).bind fun r38=>(bif (!r38) then ((sl_ContainsFunc_24_v1 n r5 p1).bind fun r39=>(bif (!r39) then (bif ((r31.length:Int)==(IntKind.wrap .i64 ((r37.length:Int)+(r5.length:Int)))) then ((w24_awake n).bind fun r40=>(some r40)) else (some false)) else (some false))) else (some false)) | .c1 r41 r42 r43=>(sl_ContainsFunc_24 n r41 p1).bind fun r44=>(bif (!r44) then ((sl_ContainsFunc_24_v1 n r5 p1).bind fun r45=>(bif (!r45) then (bif ((r31.length:Int)==(IntKind.wrap .i64 ((r41.length:Int)+(r5.length:Int)))) then ((w24_awake n).bind fun r46=>(some r46)) else (some false)) else (some false))) else (some false)) | .c2 r47 r48 r49=>(sl_ContainsFunc_24 n r47 p1).bind fun r50=>(bif (!r50) then ((sl_ContainsFunc_24_v1 n r5 p1).bind fun r51=>(bif (!r51) then (bif ((r31.length:Int)==(IntKind.wrap .i64 ((r47.length:Int)+(r5.length:Int)))) then ((w24_awake n).bind fun r52=>(some r52)) else (some false)) else (some false))) else (some false))))
def lookoutlaw24_ManifestGarbage_l2 (n:Nat) (p1:GMf) (r5:(List ByteArray)) (r53:List ByteArray) (r54:List (ByteArray×Int)) (r55:List Bool):Nat→(List GI)→(List GDE)→(List GDO)→Int→Int→Int→Option Bool
 | 0,_,_,_,_,_,_=>none
 | m+1,l7,l8,l9,i8,i3,i9=>bif (decide (i9<i3)) then (bif (decide ((0:Int)≤i9)&&decide (i9<(r5.length:Int))) then ((dk_Remove n (⟨l7,l8,l9,i8⟩:GDisk) (r5.getD i9.toNat bE)).bind fun r56=>(bif (r56.2==18) then ((w24_awake n).bind fun r57=>(some r57)) else (bif (r56.2 != 0) then (some false) else (lookoutlaw24_ManifestGarbage_l2 n p1 r5 r53 r54 r55 m r56.1.Inodes r56.1.Durable r56.1.Pending r56.1.Left i3 (IntKind.wrap .i64 (i9+1)))))) else none) else ((dk_List n (⟨l7,l8,l9,i8⟩:GDisk)).bind fun r58=>(match r58 with | .c0 r59=>(sl_ContainsFunc_24 n r59 p1).bind fun r60=>(bif (!r60) then ((sl_ContainsFunc_24_v1 n r5 p1).bind fun r61=>(bif (!r61) then (bif ((r53.length:Int)==(IntKind.wrap .i64 ((r59.length:Int)+(r5.length:Int)))) then ((w24_awake n).bind fun r62=>(some r62)) else (some false)) else (some false))) else (some false)) | .c1 r63 r64 r65=>(sl_ContainsFunc_24 n r63 p1).bind fun r66=>(bif (!r66) then ((sl_ContainsFunc_24_v1 n r5 p1).bind fun r67=>(bif (!r67) then (bif ((r53.length:Int)==(IntKind.wrap .i64 ((r63.length:Int)+(r5.length:Int)))) then ((w24_awake n).bind fun r68=>(some r68)) else (some false)) else (some false))) else (some false)) | .c2 r69 r70 r71=>(sl_ContainsFunc_24 n r69 p1).bind fun r72=>(bif (!r72) then ((sl_ContainsFunc_24_v1 n r5 p1).bind fun r73=>(bif (!r73) then (bif ((r53.length:Int)==(IntKind.wrap .i64 ((r69.length:Int)+(r5.length:Int)))) then ((w24_awake n).bind fun r74=>(some r74)) else (some false)) else (some false))) else (some false))))
def lookoutlaw24_ManifestGarbage (n:Nat) (p0:GDisk) (p1:GMf):Option Bool:=match n with
 | 0=>none
 | n+1=>(r24_Great n p1).bind fun r1=>(bif r1 then ((w24_awake n).bind fun r2=>(some r2)) else ((r22_Great n p0).bind fun r3=>(bif r3 then ((w24_awake n).bind fun r4=>(some r4)) else ((mf_Garbage n (⟨p0.Inodes,p0.Durable,p0.Pending,(-1)⟩:GDisk) p1).bind fun r5=>((dk_Check n (⟨p0.Inodes,p0.Durable,p0.Pending,(-1)⟩:GDisk)).bind fun r6=>(bif (r6 != 0) then (bif ((r5.length:Int)==0) then ((w24_awake n).bind fun r7=>(some r7)) else (some false)) else ((mf_Check n p1).bind fun r8=>(bif (r8 != 0) then (bif ((r5.length:Int)==0) then ((w24_awake n).bind fun r9=>(some r9)) else (some false)) else ((dk_List n (⟨p0.Inodes,p0.Durable,p0.Pending,(-1)⟩:GDisk)).bind fun r10=>(match r10 with | .c0 r11=>lookoutlaw24_ManifestGarbage_l0 n r5 r11 n p0.Inodes p0.Durable p0.Pending (-1) p1 (r5.length:Int) 0 | .c1 r31 r32 r33=>lookoutlaw24_ManifestGarbage_l1 n p1 r5 r31 r32 r33 n p0.Inodes p0.Durable p0.Pending (-1) (r5.length:Int) 0 | .c2 r53 r54 r55=>lookoutlaw24_ManifestGarbage_l2 n p1 r5 r53 r54 r55 n p0.Inodes p0.Durable p0.Pending (-1) (r5.length:Int) 0))))))))))
end Go.Proofs.YtomalcfghdaghaaGreatDoor
