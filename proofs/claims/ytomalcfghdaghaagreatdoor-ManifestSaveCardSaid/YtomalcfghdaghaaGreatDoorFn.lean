/- PRINTED: the functions of the program, as typed functions. -/
import Derived.Test.YtomalcfghdaghaaGreatDoorTy
import Derived.Test.YtomalcfghdaghaaGreatDoorLib0
set_option linter.unusedVariables false
set_option maxRecDepth 100000
set_option maxHeartbeats 0
namespace Go.Proofs.YtomalcfghdaghaaGreatDoor
open Go Go.AM
def r24_Great (n:Nat) (p0:GMf):Option Bool:=match n with
 | 0=>none
 | n+1=>bif (decide ((p0.Blocks.length:Int)>12)) then (some true) else (some (decide ((p0.Log.size:Int)>100)))
def w24_sample (n:Nat):Option GMf:=match n with
 | 0=>none
 | n+1=>some (⟨1,3,0,(⟨#[119,97,108,46,49]⟩:ByteArray),[(⟨2,0,(⟨#[98,108,111,99,107,46,50]⟩:ByteArray),5,9,100⟩:GBR)]⟩:GMf)
def mf_isName_s1 (n:Nat) (k_l0:Int→Int→Option Bool) (p0:ByteArray) (i1:Int) (i2:Int) (b1:Bool) (i4:Int):Option Bool:=bif (!b1) then (bif (decide (i2<48)) then (bif (i2 != 46) then (bif (i2 != 95) then (bif (i2 != 45) then (some false) else (k_l0 i1 (IntKind.wrap .i64 (i4+1)))) else (k_l0 i1 (IntKind.wrap .i64 (i4+1)))) else (k_l0 i1 (IntKind.wrap .i64 (i4+1)))) else (bif (decide (i2>57)) then (bif (i2 != 46) then (bif (i2 != 95) then (bif (i2 != 45) then (some false) else (k_l0 i1 (IntKind.wrap .i64 (i4+1)))) else (k_l0 i1 (IntKind.wrap .i64 (i4+1)))) else (k_l0 i1 (IntKind.wrap .i64 (i4+1)))) else (k_l0 i1 (IntKind.wrap .i64 (i4+1))))) else (k_l0 i1 (IntKind.wrap .i64 (i4+1)))
def mf_isName_l0 (n:Nat) (p0:ByteArray):Nat→Int→Int→Option Bool
 | 0,_,_=>none
 | m+1,i1,i3=>bif (decide (i3<i1)) then (bif (decide ((0:Int)≤i3)&&decide (i3<(p0.size:Int))) then (bif (decide ((bt p0 i3.toNat)≥65)) then (bif (decide ((bt p0 i3.toNat)≤90)) then (mf_isName_s1 n (fun a0 a1=>mf_isName_l0 n p0 m a0 a1) p0 i1 (bt p0 i3.toNat) true i3) else (bif (decide ((bt p0 i3.toNat)≥97)) then (mf_isName_s1 n (fun a0 a1=>mf_isName_l0 n p0 m a0 a1) p0 i1 (bt p0 i3.toNat) (decide ((bt p0 i3.toNat)≤122)) i3) else (mf_isName_s1 n (fun a0 a1=>mf_isName_l0 n p0 m a0 a1) p0 i1 (bt p0 i3.toNat) false i3))) else (bif (decide ((bt p0 i3.toNat)≥97)) then (mf_isName_s1 n (fun a0 a1=>mf_isName_l0 n p0 m a0 a1) p0 i1 (bt p0 i3.toNat) (decide ((bt p0 i3.toNat)≤122)) i3) else (mf_isName_s1 n (fun a0 a1=>mf_isName_l0 n p0 m a0 a1) p0 i1 (bt p0 i3.toNat) false i3))) else none) else (some true)
def mf_isName (n:Nat) (p0:ByteArray):Option Bool:=match n with
 | 0=>none
 | n+1=>bif (decide ((p0.size:Int)<1)) then (some false) else (bif (decide ((p0.size:Int)>60)) then (some false) else (bif (sEq p0 (⟨#[77,65,78,73,70,69,83,84]⟩:ByteArray)) then (some false) else (bif (sEq p0 (⟨#[77,65,78,73,70,69,83,84,46,110,101,119]⟩:ByteArray)) then (some false) else (mf_isName_l0 n p0 n (p0.size:Int) 0))))
def mf_checkRef (n:Nat) (p0:GBR) (p1:Int) (p2:Int):Option Int:=match n with
 | 0=>none
 | n+1=>bif (decide (p0.Id<1)) then (some 2) else (bif (decide (p0.Id≥p1)) then (some 2) else (bif (decide (p0.Id≤p2)) then (some 9) else (bif (decide (p0.Width<0)) then (some 2) else (bif (decide (p0.Width>1099511627776)) then (some 2) else (bif (decide (p0.MinTime<1)) then (some 2) else (bif (decide (p0.MinTime>1099511627776)) then (some 2) else (bif (decide (p0.MaxTime<p0.MinTime)) then (some 2) else (bif (decide (p0.MaxTime>1099511627776)) then (some 2) else (bif (decide (p0.Size<0)) then (some 2) else (bif (decide (p0.Size>1048576)) then (some 2) else ((mf_isName n p0.File).bind fun r1=>(bif (!r1) then (some 5) else (some 0)))))))))))))
def mf_Check_l0 (n:Nat) (p0:GMf):Nat→Int→Int→Int→(List (ByteArray×Bool))→Option Int
 | 0,_,_,_,_=>none
 | m+1,i2,i1,i3,l1=>bif (decide (i3<i1)) then (bif (decide ((0:Int)≤i3)&&decide (i3<(p0.Blocks.length:Int))) then ((mf_checkRef n (p0.Blocks.getD i3.toNat dGBR) p0.Next i2).bind fun r2=>(bif (r2 != 0) then (some r2) else (bif ((lk ((p0.Blocks.getD i3.toNat dGBR).File) l1).getD false) then (some 6) else (mf_Check_l0 n p0 m ((p0.Blocks.getD i3.toNat dGBR).Id) i1 (IntKind.wrap .i64 (i3+1)) (putL ((p0.Blocks.getD i3.toNat dGBR).File) true l1))))) else none) else (some 0)
def mf_Check (n:Nat) (p0:GMf):Option Int:=match n with
 | 0=>none
 | n+1=>bif (decide (p0.Version<0)) then (some 2) else (bif (decide (p0.Version>1152921504606846976)) then (some 2) else (bif (decide (p0.Next<1)) then (some 2) else (bif (decide (p0.Next>1152921504606846976)) then (some 2) else (bif (decide (p0.RawFrom<0)) then (some 2) else (bif (decide (p0.RawFrom>1099511627776)) then (some 2) else ((mf_isName n p0.Log).bind fun r1=>(bif (!r1) then (some 5) else (bif (decide ((p0.Blocks.length:Int)>100)) then (some 4) else (mf_Check_l0 n p0 n 0 (p0.Blocks.length:Int) 0 (putL p0.Log true []))))))))))
def mf_writeLine_s1 (n:Nat) (p2:ByteArray) (s2:ByteArray):Option ByteArray:=(bByte n s2 32).bind fun r5=>((bWrite n r5 p2).bind fun r6=>((bByte n r6 10).bind fun r7=>(some r7)))
def mf_writeLine_l0 (n:Nat) (p2:ByteArray) (p1:List Int):Nat→Int→Int→ByteArray→Option ByteArray
 | 0,_,_,_=>none
 | m+1,i1,i2,s1=>bif (decide (i2<i1)) then (bif (decide ((0:Int)≤i2)&&decide (i2<(p1.length:Int))) then ((bByte n s1 32).bind fun r2=>((itoaS n (p1.getD i2.toNat 0)).bind fun r3=>((bWrite n r2 r3).bind fun r4=>(mf_writeLine_l0 n p2 p1 m i1 (IntKind.wrap .i64 (i2+1)) r4)))) else none) else (mf_writeLine_s1 n p2 s1)
def mf_writeLine (n:Nat) (p0:ByteArray) (p1:List Int) (p2:ByteArray) (p3:ByteArray):Option ByteArray:=match n with
 | 0=>none
 | n+1=>(bWrite n p3 p0).bind fun r1=>(mf_writeLine_l0 n p2 p1 n (p1.length:Int) 0 r1)
def crc32c_shifted_s1 (n:Nat) (k_l0:Int→Int→Option Int) (p1:Int) (i1:Int) (i4:Int):Option Int:=k_l0 i1 (IntKind.wrap .i64 (i4+1))
def crc32c_shifted_l0 (n:Nat) (p1:Int):Nat→Int→Int→Option Int
 | 0,_,_=>none
 | m+1,i2,i3=>bif (decide (i3<p1)) then (bif ((iAnd .u32 i2 1) != 0) then (crc32c_shifted_s1 n (fun a0 a1=>crc32c_shifted_l0 n p1 m a0 a1) p1 (iXor .u32 (iShr .u32 i2 1) 2197175160) i3) else (crc32c_shifted_s1 n (fun a0 a1=>crc32c_shifted_l0 n p1 m a0 a1) p1 (iShr .u32 i2 1) i3)) else (some i2)
def crc32c_shifted (n:Nat) (p0:Int) (p1:Int):Option Int:=match n with
 | 0=>none
 | n+1=>crc32c_shifted_l0 n p1 n p0 0
def crc32c_fed_l2 (n:Nat) (p1:ByteArray) (l1:List Int):Nat→Int→Int→Option Int
 | 0,_,_=>none
 | m+1,i2,i3=>bif (decide (i3<(p1.size:Int))) then (bif (decide ((0:Int)≤i3)&&decide (i3<(p1.size:Int))) then (bif (decide ((0:Int)≤(iAnd .u32 (iXor .u32 i2 (IntKind.wrap .u32 (bt p1 i3.toNat))) 15))&&decide ((iAnd .u32 (iXor .u32 i2 (IntKind.wrap .u32 (bt p1 i3.toNat))) 15)<((16:Nat):Int))) then (bif Nat.blt ((iAnd .u32 (iXor .u32 i2 (IntKind.wrap .u32 (bt p1 i3.toNat))) 15).toNat) l1.length then (bif (decide ((0:Int)≤(iAnd .u32 (iXor .u32 (iShr .u32 (iXor .u32 i2 (IntKind.wrap .u32 (bt p1 i3.toNat))) 4) (l1.getD ((iAnd .u32 (iXor .u32 i2 (IntKind.wrap .u32 (bt p1 i3.toNat))) 15).toNat) 0)) 15))&&decide ((iAnd .u32 (iXor .u32 (iShr .u32 (iXor .u32 i2 (IntKind.wrap .u32 (bt p1 i3.toNat))) 4) (l1.getD ((iAnd .u32 (iXor .u32 i2 (IntKind.wrap .u32 (bt p1 i3.toNat))) 15).toNat) 0)) 15)<((16:Nat):Int))) then (bif Nat.blt ((iAnd .u32 (iXor .u32 (iShr .u32 (iXor .u32 i2 (IntKind.wrap .u32 (bt p1 i3.toNat))) 4) (l1.getD ((iAnd .u32 (iXor .u32 i2 (IntKind.wrap .u32 (bt p1 i3.toNat))) 15).toNat) 0)) 15).toNat) l1.length then (crc32c_fed_l2 n p1 l1 m (iXor .u32 (iShr .u32 (iXor .u32 (iShr .u32 (iXor .u32 i2 (IntKind.wrap .u32 (bt p1 i3.toNat))) 4) (l1.getD ((iAnd .u32 (iXor .u32 i2 (IntKind.wrap .u32 (bt p1 i3.toNat))) 15).toNat) 0)) 4) (l1.getD ((iAnd .u32 (iXor .u32 (iShr .u32 (iXor .u32 i2 (IntKind.wrap .u32 (bt p1 i3.toNat))) 4) (l1.getD ((iAnd .u32 (iXor .u32 i2 (IntKind.wrap .u32 (bt p1 i3.toNat))) 15).toNat) 0)) 15).toNat) 0)) (IntKind.wrap .i64 (i3+1))) else none) else none) else none) else none) else none) else (some i2)
def crc32c_fed_s1 (n:Nat) (p0:Int) (p1:ByteArray) (l1:List Int):Option Int:=crc32c_fed_l2 n p1 l1 n p0 0
def crc32c_fed_l0 (n:Nat) (p0:Int) (p1:ByteArray):Nat→Int→(List Int)→Option Int
 | 0,_,_=>none
 | m+1,i1,l1=>bif (decide (i1<16)) then ((crc32c_shifted n (IntKind.wrap .u32 i1) 4).bind fun r1=>(bif (decide ((0:Int)≤i1)&&decide (i1<((16:Nat):Int))) then (bif Nat.blt i1.toNat l1.length then (crc32c_fed_l0 n p0 p1 m (IntKind.wrap .i64 (i1+1)) (l1.set i1.toNat r1)) else none) else none)) else (crc32c_fed_s1 n p0 p1 l1)
def crc32c_fed (n:Nat) (p0:Int) (p1:ByteArray):Option Int:=match n with
 | 0=>none
 | n+1=>crc32c_fed_l0 n p0 p1 n 0 (List.replicate 16 0)
def crc32c_Update (n:Nat) (p0:Int) (p1:ByteArray):Option Int:=match n with
 | 0=>none
 | n+1=>(crc32c_fed n (iNot .u32 p0) p1).bind fun r1=>(some (iNot .u32 r1))
def crc32c_Sum (n:Nat) (p0:ByteArray):Option Int:=match n with
 | 0=>none
 | n+1=>(crc32c_Update n 0 p0).bind fun r1=>(some r1)
def crc32c_ending (n:Nat) (p0:Int):Option ByteArray:=match n with
 | 0=>none
 | n+1=>some (bytesOf [(IntKind.wrap .u8 p0),(IntKind.wrap .u8 (iShr .u32 p0 8)),(IntKind.wrap .u8 (iShr .u32 p0 16)),(IntKind.wrap .u8 (iShr .u32 p0 24))])
def crc32c_Seal (n:Nat) (p0:ByteArray):Option ByteArray:=match n with
 | 0=>none
 | n+1=>(crc32c_Sum n p0).bind fun r1=>((crc32c_ending n r1).bind fun r2=>(bif (decide (p0.size+r2.size≤9223372036854775807)) then (some (p0++r2)) else none))
def mf_Encode_s1 (n:Nat) (s2:ByteArray):Option (ByteArray×Int):=(bString n s2).bind fun r4=>((crc32c_Seal n r4).bind fun r5=>(some (r5,0)))
def mf_Encode_l0 (n:Nat) (p0:GMf):Nat→Int→Int→ByteArray→Option (ByteArray×Int)
 | 0,_,_,_=>none
 | m+1,i1,i2,s1=>bif (decide (i2<i1)) then (bif (decide ((0:Int)≤i2)&&decide (i2<(p0.Blocks.length:Int))) then ((mf_writeLine n (⟨#[98,108,111,99,107]⟩:ByteArray) [(p0.Blocks.getD i2.toNat dGBR).Id,(p0.Blocks.getD i2.toNat dGBR).Width,(p0.Blocks.getD i2.toNat dGBR).MinTime,(p0.Blocks.getD i2.toNat dGBR).MaxTime,(p0.Blocks.getD i2.toNat dGBR).Size] ((p0.Blocks.getD i2.toNat dGBR).File) s1).bind fun r3=>(mf_Encode_l0 n p0 m i1 (IntKind.wrap .i64 (i2+1)) r3)) else none) else (mf_Encode_s1 n s1)
def mf_Encode (n:Nat) (p0:GMf):Option (ByteArray×Int):=match n with
 | 0=>none
 | n+1=>(mf_Check n p0).bind fun r1=>(bif (r1 != 0) then (some (bE,1)) else ((mf_writeLine n (⟨#[109,97,110,105,102,101,115,116]⟩:ByteArray) [p0.Version,p0.Next,p0.RawFrom] p0.Log bE).bind fun r2=>(mf_Encode_l0 n p0 n (p0.Blocks.length:Int) 0 r2)))
def crc32c_Open (n:Nat) (p0:ByteArray):Option (ByteArray×Int):=match n with
 | 0=>none
 | n+1=>bif (decide ((p0.size:Int)<4)) then (some (bE,11)) else (bif (decide ((0:Int)≤0)&&decide (0≤(IntKind.wrap .i64 ((p0.size:Int)-4)))&&decide ((IntKind.wrap .i64 ((p0.size:Int)-4))≤(p0.size:Int))) then (bif (decide ((0:Int)≤((ByteArray.extract p0 0 ((IntKind.wrap .i64 ((p0.size:Int)-4)).toNat)).size:Int))&&decide (((ByteArray.extract p0 0 ((IntKind.wrap .i64 ((p0.size:Int)-4)).toNat)).size:Int)≤(p0.size:Int))&&decide ((p0.size:Int)≤(p0.size:Int))) then ((crc32c_Sum n (ByteArray.extract p0 0 ((IntKind.wrap .i64 ((p0.size:Int)-4)).toNat))).bind fun r1=>((crc32c_ending n r1).bind fun r2=>(bif (sNe (ByteArray.extract p0 ((ByteArray.extract p0 0 ((IntKind.wrap .i64 ((p0.size:Int)-4)).toNat)).size) p0.size) r2) then (some (bE,13)) else (some ((ByteArray.extract p0 0 ((IntKind.wrap .i64 ((p0.size:Int)-4)).toNat)),0))))) else none) else none)
def mf_lines (n:Nat) (p0:ByteArray):Option ByteArray:=match n with
 | 0=>none
 | n+1=>some p0
def mf_parseLine_s1 (n:Nat) (p2:Int) (r1:List ByteArray) (l1:List Int):Option ((List Int)×ByteArray×Bool):=bif (decide ((0:Int)≤(IntKind.wrap .i64 (p2+1)))&&decide ((IntKind.wrap .i64 (p2+1))<(r1.length:Int))) then (bif Nat.ble p2.toNat l1.length then (some ((l1.take p2.toNat),(r1.getD ((IntKind.wrap .i64 (p2+1)).toNat) bE),true)) else none) else none
def mf_parseLine_l0 (n:Nat) (p2:Int) (r1:List ByteArray):Nat→Int→Int→(List Int)→Option ((List Int)×ByteArray×Bool)
 | 0,_,_,_=>none
 | m+1,i1,i2,l1=>bif (decide (i2<i1)) then (bif (decide ((0:Int)≤(IntKind.wrap .i64 (i2+1)))&&decide ((IntKind.wrap .i64 (i2+1))<(r1.length:Int))) then ((atoiS n (r1.getD ((IntKind.wrap .i64 (i2+1)).toNat) bE)).bind fun r2=>(match r2 with | .ok r3=>bif (decide ((0:Int)≤i2)&&decide (i2<(p2.toNat:Int))) then (bif Nat.blt i2.toNat l1.length then (mf_parseLine_l0 n p2 r1 m i1 (IntKind.wrap .i64 (i2+1)) (l1.set i2.toNat r3)) else none) else none | .bad r3=>some ([],bE,false))) else none) else (mf_parseLine_s1 n p2 r1 l1)
def mf_parseLine (n:Nat) (p0:ByteArray) (p1:ByteArray) (p2:Int):Option ((List Int)×ByteArray×Bool):=match n with
 | 0=>none
 | n+1=>(splitS n p0 (⟨#[32]⟩:ByteArray)).bind fun r1=>(bif ((r1.length:Int) != (IntKind.wrap .i64 (p2+2))) then (some ([],bE,false)) else (bif (decide ((0:Int)≤0)&&decide ((0:Int)<(r1.length:Int))) then (bif (sNe (r1.getD 0 bE) p1) then (some ([],bE,false)) else (bif (decide (0≤p2)&&decide (p2*8≤140737488355328)&&decide (p2≤9223372036854775807)) then (mf_parseLine_l0 n p2 r1 n (p2.toNat:Int) 0 (List.replicate p2.toNat 0)) else none)) else none))
inductive mf_parse_r0_R where
 | c0 (a0:Int) (a1:Int) (a2:Int) (a3:ByteArray) (a4:List GBR) (a5:Int) (a6:Int) (a7:Int) (a8:ByteArray) (a9:List GBR) (a10:Bool)
 | c1 (a0:Int) (a1:Int) (a2:Int) (a3:ByteArray) (a4:List GBR) (a5:Bool) (a6:Int) (a7:Int) (a8:Int) (a9:ByteArray) (a10:List GBR) (a11:Bool)
def mf_parse_r0 (n:Nat) (p0:ByteArray) (p1:Int) (p2:Int) (p3:Int) (p4:ByteArray) (p5:List GBR) (p6:Bool) (p7:Int) (p8:Int) (p9:Int) (p10:ByteArray) (p11:List GBR) (p12:Bool):Option mf_parse_r0_R:=match n with
 | 0=>none
 | n+1=>bif p12 then ((mf_parseLine n p0 (⟨#[109,97,110,105,102,101,115,116]⟩:ByteArray) 3).bind fun r1=>(bif (!r1.2.2) then (some (mf_parse_r0_R.c0 p7 p8 p9 p10 p11 p7 p8 p9 p10 p11 p12)) else (bif (decide ((0:Int)≤0)&&decide ((0:Int)<(r1.1.length:Int))) then (bif (decide ((0:Int)≤1)&&decide ((1:Int)<(r1.1.length:Int))) then (bif (decide ((0:Int)≤2)&&decide ((2:Int)<(r1.1.length:Int))) then (some (mf_parse_r0_R.c1 p1 p2 p3 p4 p5 p6 (r1.1.getD 0 0) (r1.1.getD 1 0) (r1.1.getD 2 0) r1.2.1 p11 false)) else none) else none) else none))) else ((mf_parseLine n p0 (⟨#[98,108,111,99,107]⟩:ByteArray) 5).bind fun r2=>(bif (!r2.2.2) then (some (mf_parse_r0_R.c0 p7 p8 p9 p10 p11 p7 p8 p9 p10 p11 p12)) else (bif ((p11.length:Int)==100) then (some (mf_parse_r0_R.c0 p7 p8 p9 p10 p11 p7 p8 p9 p10 p11 p12)) else (bif (decide ((0:Int)≤0)&&decide ((0:Int)<(r2.1.length:Int))) then (bif (decide ((0:Int)≤1)&&decide ((1:Int)<(r2.1.length:Int))) then (bif (decide ((0:Int)≤2)&&decide ((2:Int)<(r2.1.length:Int))) then (bif (decide ((0:Int)≤3)&&decide ((3:Int)<(r2.1.length:Int))) then (bif (decide ((0:Int)≤4)&&decide ((4:Int)<(r2.1.length:Int))) then (bif (true&&(decide ((p11.length+1)*56≤140737488355328)&&decide (p11.length+1≤9223372036854775807))) then (some (mf_parse_r0_R.c1 p1 p2 p3 p4 p5 p6 p7 p8 p9 p10 (p11++[(⟨(r2.1.getD 0 0),(r2.1.getD 1 0),r2.2.1,(r2.1.getD 2 0),(r2.1.getD 3 0),(r2.1.getD 4 0)⟩:GBR)]) p12)) else none) else none) else none) else none) else none) else none))))
inductive mf_lines_c1_R where
 | c0 (a0:Int) (a1:Int) (a2:Int) (a3:ByteArray) (a4:List GBR) (a5:Bool) (a6:Int) (a7:Int) (a8:Int) (a9:ByteArray) (a10:List GBR) (a11:Bool) (a12:ByteArray)
 | c1 (a0:Int) (a1:Int) (a2:Int) (a3:ByteArray) (a4:List GBR) (a5:Int) (a6:Int) (a7:Int) (a8:ByteArray) (a9:List GBR) (a10:Bool) (a11:ByteArray)
def mf_lines_c1_l0 (n:Nat) (p12:ByteArray):Nat→ByteArray→Int→Int→Int→ByteArray→(List GBR)→Bool→Int→Int→Int→ByteArray→(List GBR)→Bool→Option mf_lines_c1_R
 | 0,_,_,_,_,_,_,_,_,_,_,_,_,_=>none
 | m+1,s1,i1,i2,i3,s2,l1,b1,i4,i5,i6,s3,l2,b2=>(cutS n s1 (⟨#[10]⟩:ByteArray)).bind fun r1=>((mf_parse_r0 n r1.1 i1 i2 i3 s2 l1 b1 i4 i5 i6 s3 l2 b2).bind fun r2=>(match r2 with | .c0 r3 r4 r5 r6 r7 r8 r9 r10 r11 r12 r13=>some (mf_lines_c1_R.c1 r3 r4 r5 r6 r7 r8 r9 r10 r11 r12 r13 p12) | .c1 r14 r15 r16 r17 r18 r19 r20 r21 r22 r23 r24 r25=>bif (!r1.2.2) then (some (mf_lines_c1_R.c0 r14 r15 r16 r17 r18 r19 r20 r21 r22 r23 r24 r25 p12)) else (bif (sEq r1.2.1 bE) then (some (mf_lines_c1_R.c0 r14 r15 r16 r17 r18 r19 r20 r21 r22 r23 r24 r25 p12)) else (mf_lines_c1_l0 n p12 m r1.2.1 r14 r15 r16 r17 r18 r19 r20 r21 r22 r23 r24 r25))))
def mf_lines_c1 (n:Nat) (p0:Int) (p1:Int) (p2:Int) (p3:ByteArray) (p4:List GBR) (p5:Bool) (p6:Int) (p7:Int) (p8:Int) (p9:ByteArray) (p10:List GBR) (p11:Bool) (p12:ByteArray):Option mf_lines_c1_R:=match n with
 | 0=>none
 | n+1=>mf_lines_c1_l0 n p12 n p12 p0 p1 p2 p3 p4 p5 p6 p7 p8 p9 p10 p11
def mf_parse_s0 (n:Nat) (r3:Int) (r4:Int) (r5:Int) (r6:ByteArray) (r7:List GBR) (r8:Bool) (r9:Int) (r10:Int) (r11:Int) (r12:ByteArray) (r13:List GBR) (r14:Bool) (r15:ByteArray):Option (GMf×Bool):=some ((⟨r9,r10,r11,r12,r13⟩:GMf),true)
def mf_parse (n:Nat) (p0:ByteArray):Option (GMf×Bool):=match n with
 | 0=>none
 | n+1=>(mf_lines n p0).bind fun r1=>((mf_lines_c1 n 0 0 0 bE [] false 0 0 0 bE [] true r1).bind fun r2=>(match r2 with | .c0 r3 r4 r5 r6 r7 r8 r9 r10 r11 r12 r13 r14 r15=>mf_parse_s0 n r3 r4 r5 r6 r7 r8 r9 r10 r11 r12 r13 r14 r15 | .c1 r16 r17 r18 r19 r20 r21 r22 r23 r24 r25 r26 r27=>some ((⟨r16,r17,r18,r19,r20⟩:GMf),false)))
def mf_Decode (n:Nat) (p0:ByteArray):Option (GMf×Int):=match n with
 | 0=>none
 | n+1=>(crc32c_Open n p0).bind fun r1=>(bif (r1.2 != 0) then (some ((⟨0,0,0,bE,[]⟩:GMf),r1.2)) else ((mf_parse n r1.1).bind fun r2=>(bif (!r2.2) then (some ((⟨0,0,0,bE,[]⟩:GMf),12)) else ((mf_Encode n r2.1).bind fun r3=>(bif (r3.2 != 0) then (some ((⟨0,0,0,bE,[]⟩:GMf),12)) else (bif (sNe r3.1 p0) then (some ((⟨0,0,0,bE,[]⟩:GMf),12)) else (some (r2.1,0))))))))
def r24_Same_l0 (n:Nat) (p0:GMf) (p1:GMf):Nat→Int→Option Bool
 | 0,_=>none
 | m+1,i1=>bif (decide (i1<(p0.Blocks.length:Int))) then (bif (decide ((0:Int)≤i1)&&decide (i1<(p0.Blocks.length:Int))) then (bif (decide ((0:Int)≤i1)&&decide (i1<(p1.Blocks.length:Int))) then (bif (!(((p0.Blocks.getD i1.toNat dGBR).Id==(p1.Blocks.getD i1.toNat dGBR).Id)&&(((p0.Blocks.getD i1.toNat dGBR).Width==(p1.Blocks.getD i1.toNat dGBR).Width)&&(((p0.Blocks.getD i1.toNat dGBR).File==(p1.Blocks.getD i1.toNat dGBR).File)&&(((p0.Blocks.getD i1.toNat dGBR).MinTime==(p1.Blocks.getD i1.toNat dGBR).MinTime)&&(((p0.Blocks.getD i1.toNat dGBR).MaxTime==(p1.Blocks.getD i1.toNat dGBR).MaxTime)&&(((p0.Blocks.getD i1.toNat dGBR).Size==(p1.Blocks.getD i1.toNat dGBR).Size)&&true))))))) then (some false) else (r24_Same_l0 n p0 p1 m (IntKind.wrap .i64 (i1+1)))) else none) else none) else (some true)
def r24_Same (n:Nat) (p0:GMf) (p1:GMf):Option Bool:=match n with
 | 0=>none
 | n+1=>bif (p0.Version != p1.Version) then (some false) else (bif (p0.Next != p1.Next) then (some false) else (bif (p0.RawFrom != p1.RawFrom) then (some false) else (bif (sNe p0.Log p1.Log) then (some false) else (bif ((p0.Blocks.length:Int) != (p1.Blocks.length:Int)) then (some false) else (r24_Same_l0 n p0 p1 n 0)))))
def w24_awake (n:Nat):Option Bool:=match n with
 | 0=>none
 | n+1=>(w24_sample n).bind fun r1=>((mf_Encode n r1).bind fun r2=>((mf_Decode n r2.1).bind fun r3=>(bif (r2.2==0) then (bif (r3.2==0) then (bif ((r2.1.size:Int)==51) then (bif (decide ((0:Int)≤0)&&decide ((0:Int)≤47)&&decide ((47:Int)≤(r2.1.size:Int))) then (bif (sEq (ByteArray.extract r2.1 0 47) (⟨#[109,97,110,105,102,101,115,116,32,49,32,51,32,48,32,119,97,108,46,49,10,98,108,111,99,107,32,50,32,48,32,53,32,57,32,49,48,48,32,98,108,111,99,107,46,50,10]⟩:ByteArray)) then ((w24_sample n).bind fun r4=>((r24_Same n r3.1 r4).bind fun r5=>(some r5))) else (some false)) else none) else (some false)) else (some false)) else (some false))))
def r22_Great_s5 (n:Nat) (i9:Int):Option Bool:=some (decide (i9>60000))
def r22_Great_l4 (n:Nat) (p0:GDisk):Nat→Int→Int→Option Bool
 | 0,_,_=>none
 | m+1,i7,i8=>bif (decide (i8<(p0.Pending.length:Int))) then (bif (decide ((0:Int)≤i8)&&decide (i8<(p0.Pending.length:Int))) then (bif (decide ((((p0.Pending.getD i8.toNat dGDO).Name).size:Int)>100)) then (some true) else (bif (decide ((0:Int)≤i8)&&decide (i8<(p0.Pending.length:Int))) then (bif (decide ((((p0.Pending.getD i8.toNat dGDO).To).size:Int)>100)) then (some true) else (r22_Great_l4 n p0 m i7 (IntKind.wrap .i64 (i8+1)))) else none)) else none) else (r22_Great_s5 n i7)
def r22_Great_s3 (n:Nat) (p0:GDisk) (i6:Int):Option Bool:=r22_Great_l4 n p0 n i6 0
def r22_Great_l2 (n:Nat) (p0:GDisk):Nat→Int→Int→Option Bool
 | 0,_,_=>none
 | m+1,i4,i5=>bif (decide (i5<(p0.Durable.length:Int))) then (bif (decide ((0:Int)≤i5)&&decide (i5<(p0.Durable.length:Int))) then (bif (decide ((((p0.Durable.getD i5.toNat dGDE).Name).size:Int)>100)) then (some true) else (r22_Great_l2 n p0 m i4 (IntKind.wrap .i64 (i5+1)))) else none) else (r22_Great_s3 n p0 i4)
def r22_Great_s1 (n:Nat) (p0:GDisk) (i3:Int):Option Bool:=r22_Great_l2 n p0 n i3 0
def r22_Great_l0 (n:Nat) (p0:GDisk):Nat→Int→Int→Option Bool
 | 0,_,_=>none
 | m+1,i1,i2=>bif (decide (i2<(p0.Inodes.length:Int))) then (bif (decide ((0:Int)≤i2)&&decide (i2<(p0.Inodes.length:Int))) then (bif (decide ((((p0.Inodes.getD i2.toNat dGI).Data).size:Int)>20000)) then (some true) else (bif (decide ((0:Int)≤i2)&&decide (i2<(p0.Inodes.length:Int))) then (r22_Great_l0 n p0 m (IntKind.wrap .i64 (i1+(((p0.Inodes.getD i2.toNat dGI).Data).size:Int))) (IntKind.wrap .i64 (i2+1))) else none)) else none) else (r22_Great_s1 n p0 i1)
def r22_Great (n:Nat) (p0:GDisk):Option Bool:=match n with
 | 0=>none
 | n+1=>bif (decide ((p0.Inodes.length:Int)>40)) then (some true) else (bif (decide ((p0.Durable.length:Int)>40)) then (some true) else (bif (decide ((p0.Pending.length:Int)>40)) then (some true) else (r22_Great_l0 n p0 n 0 0)))
def dk_isName_s1 (n:Nat) (k_l0:Int→Int→Option Bool) (p0:ByteArray) (i1:Int) (i2:Int) (b1:Bool) (i4:Int):Option Bool:=bif (!b1) then (bif (decide (i2<48)) then (bif (i2 != 46) then (bif (i2 != 95) then (bif (i2 != 45) then (some false) else (k_l0 i1 (IntKind.wrap .i64 (i4+1)))) else (k_l0 i1 (IntKind.wrap .i64 (i4+1)))) else (k_l0 i1 (IntKind.wrap .i64 (i4+1)))) else (bif (decide (i2>57)) then (bif (i2 != 46) then (bif (i2 != 95) then (bif (i2 != 45) then (some false) else (k_l0 i1 (IntKind.wrap .i64 (i4+1)))) else (k_l0 i1 (IntKind.wrap .i64 (i4+1)))) else (k_l0 i1 (IntKind.wrap .i64 (i4+1)))) else (k_l0 i1 (IntKind.wrap .i64 (i4+1))))) else (k_l0 i1 (IntKind.wrap .i64 (i4+1)))
def dk_isName_l0 (n:Nat) (p0:ByteArray):Nat→Int→Int→Option Bool
 | 0,_,_=>none
 | m+1,i1,i3=>bif (decide (i3<i1)) then (bif (decide ((0:Int)≤i3)&&decide (i3<(p0.size:Int))) then (bif (decide ((bt p0 i3.toNat)≥65)) then (bif (decide ((bt p0 i3.toNat)≤90)) then (dk_isName_s1 n (fun a0 a1=>dk_isName_l0 n p0 m a0 a1) p0 i1 (bt p0 i3.toNat) true i3) else (bif (decide ((bt p0 i3.toNat)≥97)) then (dk_isName_s1 n (fun a0 a1=>dk_isName_l0 n p0 m a0 a1) p0 i1 (bt p0 i3.toNat) (decide ((bt p0 i3.toNat)≤122)) i3) else (dk_isName_s1 n (fun a0 a1=>dk_isName_l0 n p0 m a0 a1) p0 i1 (bt p0 i3.toNat) false i3))) else (bif (decide ((bt p0 i3.toNat)≥97)) then (dk_isName_s1 n (fun a0 a1=>dk_isName_l0 n p0 m a0 a1) p0 i1 (bt p0 i3.toNat) (decide ((bt p0 i3.toNat)≤122)) i3) else (dk_isName_s1 n (fun a0 a1=>dk_isName_l0 n p0 m a0 a1) p0 i1 (bt p0 i3.toNat) false i3))) else none) else (some true)
def dk_isName (n:Nat) (p0:ByteArray):Option Bool:=match n with
 | 0=>none
 | n+1=>bif (decide ((p0.size:Int)<1)) then (some false) else (bif (decide ((p0.size:Int)>60)) then (some false) else (dk_isName_l0 n p0 n (p0.size:Int) 0))
def dk_durable_s1 (n:Nat) (p0:GDisk) (l1:List Bool) (l3:List (ByteArray×Int)):Option (Nat×Bool×(List (ByteArray×Int))×(List Bool)):=some (p0.Inodes.length,true,l3,l1)
def dk_durable_l0 (n:Nat) (p0:GDisk):Nat→Int→Int→(List (ByteArray×Int))→(List Bool)→Option (Nat×Bool×(List (ByteArray×Int))×(List Bool))
 | 0,_,_,_,_=>none
 | m+1,i1,i2,l2,l1=>bif (decide (i2<i1)) then (bif (decide ((0:Int)≤i2)&&decide (i2<(p0.Durable.length:Int))) then ((dk_isName n ((p0.Durable.getD i2.toNat dGDE).Name)).bind fun r1=>(bif (!r1) then (some (p0.Inodes.length,false,l2,l1)) else (bif (decide (i2>0)) then (bif (decide ((0:Int)≤(IntKind.wrap .i64 (i2-1)))&&decide ((IntKind.wrap .i64 (i2-1))<(p0.Durable.length:Int))) then (bif (sLe ((p0.Durable.getD i2.toNat dGDE).Name) ((p0.Durable.getD ((IntKind.wrap .i64 (i2-1)).toNat) dGDE).Name)) then (some (p0.Inodes.length,false,l2,l1)) else (bif (decide ((p0.Durable.getD i2.toNat dGDE).Inode<0)) then (some (p0.Inodes.length,false,l2,l1)) else (bif (decide ((p0.Durable.getD i2.toNat dGDE).Inode≥(p0.Inodes.length:Int))) then (some (p0.Inodes.length,false,l2,l1)) else (bif (decide ((0:Int)≤(p0.Durable.getD i2.toNat dGDE).Inode)&&decide ((p0.Durable.getD i2.toNat dGDE).Inode<(p0.Inodes.length:Int))) then (bif Nat.blt (((p0.Durable.getD i2.toNat dGDE).Inode).toNat) l1.length then (bif (l1.getD (((p0.Durable.getD i2.toNat dGDE).Inode).toNat) false) then (some (p0.Inodes.length,false,l2,l1)) else (bif (decide ((0:Int)≤(p0.Durable.getD i2.toNat dGDE).Inode)&&decide ((p0.Durable.getD i2.toNat dGDE).Inode<(p0.Inodes.length:Int))) then (bif Nat.blt (((p0.Durable.getD i2.toNat dGDE).Inode).toNat) l1.length then (dk_durable_l0 n p0 m i1 (IntKind.wrap .i64 (i2+1)) (putL ((p0.Durable.getD i2.toNat dGDE).Name) ((p0.Durable.getD i2.toNat dGDE).Inode) l2) (l1.set (((p0.Durable.getD i2.toNat dGDE).Inode).toNat) true)) else none) else none)) else none) else none)))) else none) else (bif (decide ((p0.Durable.getD i2.toNat dGDE).Inode<0)) then (some (p0.Inodes.length,false,l2,l1)) else (bif (decide ((p0.Durable.getD i2.toNat dGDE).Inode≥(p0.Inodes.length:Int))) then (some (p0.Inodes.length,false,l2,l1)) else (bif (decide ((0:Int)≤(p0.Durable.getD i2.toNat dGDE).Inode)&&decide ((p0.Durable.getD i2.toNat dGDE).Inode<(p0.Inodes.length:Int))) then (bif Nat.blt (((p0.Durable.getD i2.toNat dGDE).Inode).toNat) l1.length then (bif (l1.getD (((p0.Durable.getD i2.toNat dGDE).Inode).toNat) false) then (some (p0.Inodes.length,false,l2,l1)) else (bif (decide ((0:Int)≤(p0.Durable.getD i2.toNat dGDE).Inode)&&decide ((p0.Durable.getD i2.toNat dGDE).Inode<(p0.Inodes.length:Int))) then (bif Nat.blt (((p0.Durable.getD i2.toNat dGDE).Inode).toNat) l1.length then (dk_durable_l0 n p0 m i1 (IntKind.wrap .i64 (i2+1)) (putL ((p0.Durable.getD i2.toNat dGDE).Name) ((p0.Durable.getD i2.toNat dGDE).Inode) l2) (l1.set (((p0.Durable.getD i2.toNat dGDE).Inode).toNat) true)) else none) else none)) else none) else none)))))) else none) else (dk_durable_s1 n p0 l1 l2)
def dk_durable (n:Nat) (p0:GDisk):Option (Nat×Bool×(List (ByteArray×Int))×(List Bool)):=match n with
 | 0=>none
 | n+1=>bif (decide (0≤(p0.Inodes.length:Int))&&decide ((p0.Inodes.length:Int)*1≤140737488355328)&&decide ((p0.Inodes.length:Int)≤9223372036854775807)) then (dk_durable_l0 n p0 n (p0.Durable.length:Int) 0 [] (List.replicate p0.Inodes.length false)) else none
inductive dk_operationOf_R where
 | c0
 | c1
 | c2
 | c3
def dk_operationOf (n:Nat) (p0:Int):Option dk_operationOf_R:=match n with
 | 0=>none
 | n+1=>bif (p0==1) then (some dk_operationOf_R.c0) else (bif (p0==2) then (some dk_operationOf_R.c1) else (bif (p0==3) then (some dk_operationOf_R.c2) else (some dk_operationOf_R.c3)))
def dk_mayCreate (n:Nat) (p0:Nat) (p1:GDO) (p2:List (ByteArray×Int)) (p3:List Bool):Option (Bool×(List (ByteArray×Int))×(List Bool)):=match n with
 | 0=>none
 | n+1=>(dk_isName n p1.Name).bind fun r1=>(bif r1 then (bif (!(lk p1.Name p2).isSome) then (bif (sEq p1.To bE) then (bif (decide (p1.Inode≥0)) then (bif (decide (p1.Inode<(p0:Int))) then (bif (decide ((0:Int)≤p1.Inode)&&decide (p1.Inode<(p0:Int))) then (bif Nat.blt p1.Inode.toNat p3.length then (some ((!(p3.getD p1.Inode.toNat false)),p2,p3)) else none) else none) else (some (false,p2,p3))) else (some (false,p2,p3))) else (some (false,p2,p3))) else (some (false,p2,p3))) else (some (false,p2,p3)))
def dk_create (n:Nat) (p0:Nat) (p1:GDO) (p2:List (ByteArray×Int)) (p3:List Bool):Option ((List (ByteArray×Int))×(List Bool)):=match n with
 | 0=>none
 | n+1=>bif (decide ((0:Int)≤p1.Inode)&&decide (p1.Inode<(p0:Int))) then (bif Nat.blt p1.Inode.toNat p3.length then (some ((putL p1.Name p1.Inode p2),(p3.set p1.Inode.toNat true))) else none) else none
def dk_mayRename (n:Nat) (p0:Nat) (p1:GDO) (p2:List (ByteArray×Int)) (p3:List Bool):Option (Bool×(List (ByteArray×Int))×(List Bool)):=match n with
 | 0=>none
 | n+1=>bif (lk p1.Name p2).isSome then ((dk_isName n p1.To).bind fun r1=>(bif r1 then (bif (sNe p1.To p1.Name) then (some ((p1.Inode==0),p2,p3)) else (some (false,p2,p3))) else (some (false,p2,p3)))) else (some (false,p2,p3))
def dk_rename_s0 (n:Nat) (p0:Nat) (p1:GDO) (p2:List (ByteArray×Int)) (l1:List Bool):Option ((List (ByteArray×Int))×(List Bool)):=some ((delL p1.Name (putL p1.To ((lk p1.Name p2).getD 0) p2)),l1)
def dk_rename (n:Nat) (p0:Nat) (p1:GDO) (p2:List (ByteArray×Int)) (p3:List Bool):Option ((List (ByteArray×Int))×(List Bool)):=match n with
 | 0=>none
 | n+1=>bif (lk p1.To p2).isSome then (bif (decide ((0:Int)≤((lk p1.To p2).getD 0))&&decide (((lk p1.To p2).getD 0)<(p0:Int))) then (bif Nat.blt (((lk p1.To p2).getD 0).toNat) p3.length then (dk_rename_s0 n p0 p1 p2 (p3.set (((lk p1.To p2).getD 0).toNat) false)) else none) else none) else (dk_rename_s0 n p0 p1 p2 p3)
def dk_mayRemove (n:Nat) (p0:Nat) (p1:GDO) (p2:List (ByteArray×Int)) (p3:List Bool):Option (Bool×(List (ByteArray×Int))×(List Bool)):=match n with
 | 0=>none
 | n+1=>bif (lk p1.Name p2).isSome then (bif (sEq p1.To bE) then (some ((p1.Inode==0),p2,p3)) else (some (false,p2,p3))) else (some (false,p2,p3))
def dk_remove (n:Nat) (p0:Nat) (p1:GDO) (p2:List (ByteArray×Int)) (p3:List Bool):Option ((List (ByteArray×Int))×(List Bool)):=match n with
 | 0=>none
 | n+1=>bif (decide ((0:Int)≤((lk p1.Name p2).getD 0))&&decide (((lk p1.Name p2).getD 0)<(p0:Int))) then (bif Nat.blt (((lk p1.Name p2).getD 0).toNat) p3.length then (some ((delL p1.Name p2),(p3.set (((lk p1.Name p2).getD 0).toNat) false))) else none) else none
inductive dk_current_R where
 | c0 (a0:List Bool)
 | c1 (a0:List Bool) (a1:List (ByteArray×Int)) (a2:List Bool)
 | c2 (a0:Nat) (a1:List (ByteArray×Int)) (a2:List Bool)
def dk_current_s3 (n:Nat) (r1:Nat×Bool×(List (ByteArray×Int))×(List Bool)) (l3:List (ByteArray×Int)) (l4:List Bool):Option dk_current_R:=some (dk_current_R.c2 r1.1 l3 l4)
def dk_current_l2 (n:Nat) (r1:Nat×Bool×(List (ByteArray×Int))×(List Bool)) (p0:GDisk):Nat→Int→Int→(List (ByteArray×Int))→(List Bool)→Option dk_current_R
 | 0,_,_,_,_=>none
 | m+1,i2,i4,l1,l2=>bif (decide (i4<i2)) then (bif (decide ((0:Int)≤i4)&&decide (i4<(p0.Pending.length:Int))) then ((dk_operationOf n ((p0.Pending.getD i4.toNat dGDO).Kind)).bind fun r2=>(match r2 with | .c0=>(dk_mayCreate n r1.1 (p0.Pending.getD i4.toNat dGDO) l1 l2).bind fun r3=>(bif (!r3.1) then (some (dk_current_R.c1 [] r3.2.1 r3.2.2)) else ((dk_create n r1.1 (p0.Pending.getD i4.toNat dGDO) r3.2.1 r3.2.2).bind fun r4=>(dk_current_l2 n r1 p0 m i2 (IntKind.wrap .i64 (i4+1)) r4.1 r4.2))) | .c1=>(dk_mayRename n r1.1 (p0.Pending.getD i4.toNat dGDO) l1 l2).bind fun r5=>(bif (!r5.1) then (some (dk_current_R.c1 [] r5.2.1 r5.2.2)) else ((dk_rename n r1.1 (p0.Pending.getD i4.toNat dGDO) r5.2.1 r5.2.2).bind fun r6=>(dk_current_l2 n r1 p0 m i2 (IntKind.wrap .i64 (i4+1)) r6.1 r6.2))) | .c2=>(dk_mayRemove n r1.1 (p0.Pending.getD i4.toNat dGDO) l1 l2).bind fun r7=>(bif (!r7.1) then (some (dk_current_R.c1 [] r7.2.1 r7.2.2)) else ((dk_remove n r1.1 (p0.Pending.getD i4.toNat dGDO) r7.2.1 r7.2.2).bind fun r8=>(dk_current_l2 n r1 p0 m i2 (IntKind.wrap .i64 (i4+1)) r8.1 r8.2))) | .c3=>some (dk_current_R.c1 [] l1 l2))) else none) else (dk_current_s3 n r1 l1 l2)
def dk_current_s1 (n:Nat) (p0:GDisk):Option dk_current_R:=(dk_durable n p0).bind fun r1=>(bif (!r1.2.1) then (some (dk_current_R.c1 [] r1.2.2.1 r1.2.2.2)) else (dk_current_l2 n r1 p0 n (p0.Pending.length:Int) 0 r1.2.2.1 r1.2.2.2))
def dk_current_l0 (n:Nat) (p0:GDisk):Nat→Int→Int→Option dk_current_R
 | 0,_,_=>none
 | m+1,i1,i3=>bif (decide (i3<i1)) then (bif (decide ((0:Int)≤i3)&&decide (i3<(p0.Inodes.length:Int))) then (bif (decide ((((p0.Inodes.getD i3.toNat dGI).Data).size:Int)>1048576)) then (some (dk_current_R.c0 [])) else (bif (decide ((p0.Inodes.getD i3.toNat dGI).Synced<0)) then (some (dk_current_R.c0 [])) else (bif (decide ((p0.Inodes.getD i3.toNat dGI).Synced>(((p0.Inodes.getD i3.toNat dGI).Data).size:Int))) then (some (dk_current_R.c0 [])) else (dk_current_l0 n p0 m i1 (IntKind.wrap .i64 (i3+1)))))) else none) else (dk_current_s1 n p0)
def dk_current (n:Nat) (p0:GDisk):Option dk_current_R:=match n with
 | 0=>none
 | n+1=>bif (decide ((p0.Inodes.length:Int)>1000)) then (some (dk_current_R.c0 [])) else (bif (decide ((p0.Pending.length:Int)>1000)) then (some (dk_current_R.c0 [])) else (bif (decide (p0.Left<(-1))) then (some (dk_current_R.c0 [])) else (dk_current_l0 n p0 n (p0.Inodes.length:Int) 0)))
def dk_Check (n:Nat) (p0:GDisk):Option Int:=match n with
 | 0=>none
 | n+1=>(dk_current n p0).bind fun r1=>(match r1 with | .c0 r2=>some 1 | .c1 r3 r4 r5=>some 1 | .c2 r6 r7 r8=>some 0)
def dk_find (n:Nat) (p0:GDisk) (p1:ByteArray):Option (Int×Int):=match n with
 | 0=>none
 | n+1=>(dk_current n p0).bind fun r1=>(match r1 with | .c0 r2=>some (0,1) | .c1 r3 r4 r5=>some (0,1) | .c2 r6 r7 r8=>bif (!(lk p1 r7).isSome) then (some (0,7)) else (some (((lk p1 r7).getD 0),0)))
def dk_Read (n:Nat) (p0:GDisk) (p1:ByteArray):Option (ByteArray×Int):=match n with
 | 0=>none
 | n+1=>(dk_find n p0 p1).bind fun r1=>(bif (r1.2 != 0) then (some (bE,r1.2)) else (bif (decide ((0:Int)≤r1.1)&&decide (r1.1<(p0.Inodes.length:Int))) then (some ((p0.Inodes.getD r1.1.toNat dGI).Data,0)) else none))
def sl_Clip (n:Nat) (p0:List GDO):Option (List GDO):=match n with
 | 0=>none
 | n+1=>bif (decide ((0:Int)≤0)&&decide (0≤(p0.length:Int))&&decide ((p0.length:Int)≤(p0.length:Int))&&decide ((p0.length:Int)=(p0.length:Int))) then (some p0) else none
def dk_pend (n:Nat) (p0:GDisk) (p1:GDO):Option GDisk:=match n with
 | 0=>none
 | n+1=>(sl_Clip n p0.Pending).bind fun r1=>(bif (true&&(decide ((r1.length+1)*48≤140737488355328)&&decide (r1.length+1≤9223372036854775807))) then (some (⟨p0.Inodes,p0.Durable,(r1++[p1]),p0.Left⟩:GDisk)) else none)
def dk_perform_s0 (n:Nat) (p1:GDisk) (i1:Int):Option (GDisk×Int):=some ((⟨p1.Inodes,p1.Durable,p1.Pending,i1⟩:GDisk),0)
def dk_perform (n:Nat) (p0:GDisk) (p1:GDisk):Option (GDisk×Int):=match n with
 | 0=>none
 | n+1=>bif (p0.Left==0) then (some (p0,19)) else (bif (decide (p0.Left>0)) then (dk_perform_s0 n p1 (IntKind.wrap .i64 (p0.Left-1))) else (dk_perform_s0 n p1 p1.Left))
def dk_Remove (n:Nat) (p0:GDisk) (p1:ByteArray):Option (GDisk×Int):=match n with
 | 0=>none
 | n+1=>(dk_find n p0 p1).bind fun r1=>(bif (r1.2 != 0) then (some ((⟨[],[],[],0⟩:GDisk),r1.2)) else (bif (decide ((p0.Pending.length:Int)≥1000)) then (some ((⟨[],[],[],0⟩:GDisk),18)) else ((dk_pend n p0 (⟨3,p1,bE,0⟩:GDO)).bind fun r2=>((dk_perform n p0 r2).bind fun r3=>(some (r3.1,r3.2))))))
def mf_Save_c1 (n:Nat) (p0:GDisk):Option (GDisk×Int):=match n with
 | 0=>none
 | n+1=>(dk_Remove n p0 (⟨#[77,65,78,73,70,69,83,84,46,110,101,119]⟩:ByteArray)).bind fun r1=>(some (r1.1,r1.2))
def sl_Clip_97 (n:Nat) (p0:List GI):Option (List GI):=match n with
 | 0=>none
 | n+1=>bif (decide ((0:Int)≤0)&&decide (0≤(p0.length:Int))&&decide ((p0.length:Int)≤(p0.length:Int))&&decide ((p0.length:Int)=(p0.length:Int))) then (some p0) else none
def dk_Create (n:Nat) (p0:GDisk) (p1:ByteArray):Option (GDisk×Int):=match n with
 | 0=>none
 | n+1=>(dk_current n p0).bind fun r1=>(match r1 with | .c0 r2=>some ((⟨[],[],[],0⟩:GDisk),1) | .c1 r3 r4 r5=>some ((⟨[],[],[],0⟩:GDisk),1) | .c2 r6 r7 r8=>(dk_isName n p1).bind fun r9=>(bif (!r9) then (some ((⟨[],[],[],0⟩:GDisk),5)) else (bif (lk p1 r7).isSome then (some ((⟨[],[],[],0⟩:GDisk),6)) else (bif (decide ((p0.Inodes.length:Int)≥1000)) then (some ((⟨[],[],[],0⟩:GDisk),18)) else (bif (decide ((p0.Pending.length:Int)≥1000)) then (some ((⟨[],[],[],0⟩:GDisk),18)) else ((dk_pend n p0 (⟨1,p1,bE,(p0.Inodes.length:Int)⟩:GDO)).bind fun r10=>((sl_Clip_97 n p0.Inodes).bind fun r11=>(bif (true&&(decide ((r11.length+1)*24≤140737488355328)&&decide (r11.length+1≤9223372036854775807))) then ((dk_perform n p0 (⟨(r11++[(⟨bE,0⟩:GI)]),r10.Durable,r10.Pending,r10.Left⟩:GDisk)).bind fun r12=>(some (r12.1,r12.2))) else none))))))))
def mf_Save_c2 (n:Nat) (p0:GDisk):Option (GDisk×Int):=match n with
 | 0=>none
 | n+1=>(dk_Create n p0 (⟨#[77,65,78,73,70,69,83,84,46,110,101,119]⟩:ByteArray)).bind fun r1=>(some (r1.1,r1.2))
inductive sl_Clone_R where
 | c0 (a0:Nat) (a1:List GI)
 | c1 (a0:List GI)
def sl_Clone (n:Nat) (p0:List GI):Option sl_Clone_R:=match n with
 | 0=>none
 | n+1=>bif decide (0<p0.length) then (bif (true&&(decide ((0+p0.length)*24≤140737488355328)&&decide (0+p0.length≤9223372036854775807))) then (bif decide (0<p0.length) then (some (sl_Clone_R.c0 p0.length p0)) else (some (sl_Clone_R.c1 p0))) else none) else (some (sl_Clone_R.c1 []))
def dk_change (n:Nat) (p0:GDisk) (p1:Int) (p2:GI):Option GDisk:=match n with
 | 0=>none
 | n+1=>(sl_Clone n p0.Inodes).bind fun r1=>(match r1 with | .c0 r2 r3=>bif (decide ((0:Int)≤p1)&&decide (p1<(r2:Int))) then (bif Nat.blt p1.toNat r3.length then (bif Nat.ble r2 (r3.set p1.toNat p2).length then (some (⟨((r3.set p1.toNat p2).take r2),p0.Durable,p0.Pending,p0.Left⟩:GDisk)) else none) else none) else none | .c1 r5=>bif (decide ((0:Int)≤p1)&&decide (p1<(r5.length:Int))) then (none) else none)
def dk_Append (n:Nat) (p0:GDisk) (p1:ByteArray) (p2:ByteArray):Option (GDisk×Int):=match n with
 | 0=>none
 | n+1=>(dk_find n p0 p1).bind fun r1=>(bif (r1.2 != 0) then (some ((⟨[],[],[],0⟩:GDisk),r1.2)) else (bif (decide ((0:Int)≤r1.1)&&decide (r1.1<(p0.Inodes.length:Int))) then (bif (decide ((p2.size:Int)>(IntKind.wrap .i64 (1048576-(((p0.Inodes.getD r1.1.toNat dGI).Data).size:Int))))) then (some ((⟨[],[],[],0⟩:GDisk),18)) else (bif (decide (((p0.Inodes.getD r1.1.toNat dGI).Data).size+p2.size≤9223372036854775807)) then ((dk_change n p0 r1.1 (⟨((p0.Inodes.getD r1.1.toNat dGI).Data++p2),(p0.Inodes.getD r1.1.toNat dGI).Synced⟩:GI)).bind fun r2=>((dk_perform n p0 r2).bind fun r3=>(some (r3.1,r3.2)))) else none)) else none))
def mf_Save_c3 (n:Nat) (p0:GDisk) (p1:ByteArray):Option (GDisk×Int):=match n with
 | 0=>none
 | n+1=>(dk_Append n p0 (⟨#[77,65,78,73,70,69,83,84,46,110,101,119]⟩:ByteArray) p1).bind fun r1=>(some (r1.1,r1.2))
def dk_Sync (n:Nat) (p0:GDisk) (p1:ByteArray):Option (GDisk×Int):=match n with
 | 0=>none
 | n+1=>(dk_find n p0 p1).bind fun r1=>(bif (r1.2 != 0) then (some ((⟨[],[],[],0⟩:GDisk),r1.2)) else (bif (decide ((0:Int)≤r1.1)&&decide (r1.1<(p0.Inodes.length:Int))) then ((dk_change n p0 r1.1 (⟨(p0.Inodes.getD r1.1.toNat dGI).Data,(((p0.Inodes.getD r1.1.toNat dGI).Data).size:Int)⟩:GI)).bind fun r2=>((dk_perform n p0 r2).bind fun r3=>(some (r3.1,r3.2)))) else none))
def mf_Save_c4 (n:Nat) (p0:GDisk):Option (GDisk×Int):=match n with
 | 0=>none
 | n+1=>(dk_Sync n p0 (⟨#[77,65,78,73,70,69,83,84,46,110,101,119]⟩:ByteArray)).bind fun r1=>(some (r1.1,r1.2))
def dk_Rename (n:Nat) (p0:GDisk) (p1:ByteArray) (p2:ByteArray):Option (GDisk×Int):=match n with
 | 0=>none
 | n+1=>(dk_find n p0 p1).bind fun r1=>(bif (r1.2 != 0) then (some ((⟨[],[],[],0⟩:GDisk),r1.2)) else ((dk_isName n p2).bind fun r2=>(bif (!r2) then (some ((⟨[],[],[],0⟩:GDisk),5)) else (bif (sEq p2 p1) then (some ((⟨[],[],[],0⟩:GDisk),6)) else (bif (decide ((p0.Pending.length:Int)≥1000)) then (some ((⟨[],[],[],0⟩:GDisk),18)) else ((dk_pend n p0 (⟨2,p1,p2,0⟩:GDO)).bind fun r3=>((dk_perform n p0 r3).bind fun r4=>(some (r4.1,r4.2)))))))))
def mf_Save_c5 (n:Nat) (p0:GDisk):Option (GDisk×Int):=match n with
 | 0=>none
 | n+1=>(dk_Rename n p0 (⟨#[77,65,78,73,70,69,83,84,46,110,101,119]⟩:ByteArray) (⟨#[77,65,78,73,70,69,83,84]⟩:ByteArray)).bind fun r1=>(some (r1.1,r1.2))
def maps_Keys (n:Nat) (p0:List (ByteArray×Int)):Option (List (ByteArray×Int)):=match n with
 | 0=>none
 | n+1=>some p0
def dk_SyncDir_s1 (n:Nat) (k_l0:(List GI)→Int→Int→(List Int)→Option (GDisk×Int)) (p0:GDisk) (r6:Nat) (i1:Int) (r7:List (ByteArray×Int)) (r8:List Bool) (l2:List GI) (i4:Int) (l3:List Int):Option (GDisk×Int):=k_l0 l2 i1 (IntKind.wrap .i64 (i4+1)) l3
def dk_SyncDir_s4 (n:Nat) (p0:GDisk) (r11:(List (ByteArray×Int))) (r8:List Bool) (l1:List Int) (l9:List GI) (l5:List GDE):Option (GDisk×Int):=(dk_perform n p0 (⟨l9,l5,[],p0.Left⟩:GDisk)).bind fun r14=>(some (r14.1,r14.2))
def dk_SyncDir_l3 (n:Nat) (p0:GDisk) (r6:Nat) (r12:List ByteArray) (r11:(List (ByteArray×Int))) (r8:List Bool) (l1:List Int):Nat→(List GI)→(List GDE)→Int→Int→Option (GDisk×Int)
 | 0,_,_,_,_=>none
 | m+1,l8,l4,i2,i5=>bif (decide (i5<i2)) then (bif (decide ((0:Int)≤i5)&&decide (i5<(r12.length:Int))) then (bif (decide ((0:Int)≤((lk (r12.getD i5.toNat bE) r11).getD 0))&&decide (((lk (r12.getD i5.toNat bE) r11).getD 0)<(p0.Inodes.length:Int))) then (bif Nat.blt (((lk (r12.getD i5.toNat bE) r11).getD 0).toNat) l1.length then (bif (true&&(decide ((l4.length+1)*24≤140737488355328)&&decide (l4.length+1≤9223372036854775807))) then (dk_SyncDir_l3 n p0 r6 r12 r11 r8 l1 m l8 (l4++[(⟨(r12.getD i5.toNat bE),(l1.getD (((lk (r12.getD i5.toNat bE) r11).getD 0).toNat) 0)⟩:GDE)]) i2 (IntKind.wrap .i64 (i5+1))) else none) else none) else none) else none) else (dk_SyncDir_s4 n p0 r11 r8 l1 l8 l4)
def dk_SyncDir_s2 (n:Nat) (p0:GDisk) (r6:Nat) (r7:List (ByteArray×Int)) (r8:List Bool) (l1:List Int) (l7:List GI):Option (GDisk×Int):=(maps_Keys n r7).bind fun r11=>((sortedKeys n r11).bind fun r12=>(dk_SyncDir_l3 n p0 r6 r12 r11 r8 l1 n l7 [] (r12.length:Int) 0))
def dk_SyncDir_l0 (n:Nat) (p0:GDisk) (r6:Nat) (r7:List (ByteArray×Int)) (r8:List Bool):Nat→(List GI)→Int→Int→(List Int)→Option (GDisk×Int)
 | 0,_,_,_,_=>none
 | m+1,l6,i1,i3,l1=>bif (decide (i3<i1)) then (bif (decide ((0:Int)≤i3)&&decide (i3<(p0.Inodes.length:Int))) then (bif (decide ((0:Int)≤i3)&&decide (i3<(r6:Int))) then (bif Nat.blt i3.toNat r8.length then (bif (r8.getD i3.toNat false) then (bif (decide ((0:Int)≤i3)&&decide (i3<(p0.Inodes.length:Int))) then (bif Nat.blt i3.toNat l1.length then (bif (true&&(decide ((l6.length+1)*24≤140737488355328)&&decide (l6.length+1≤9223372036854775807))) then (dk_SyncDir_s1 n (fun a0 a1 a2 a3=>dk_SyncDir_l0 n p0 r6 r7 r8 m a0 a1 a2 a3) p0 r6 i1 r7 r8 (l6++[(p0.Inodes.getD i3.toNat dGI)]) i3 (l1.set i3.toNat (l6.length:Int))) else none) else none) else none) else (dk_SyncDir_s1 n (fun a0 a1 a2 a3=>dk_SyncDir_l0 n p0 r6 r7 r8 m a0 a1 a2 a3) p0 r6 i1 r7 r8 l6 i3 l1)) else none) else none) else none) else (dk_SyncDir_s2 n p0 r6 r7 r8 l1 l6)
def dk_SyncDir (n:Nat) (p0:GDisk):Option (GDisk×Int):=match n with
 | 0=>none
 | n+1=>(dk_current n p0).bind fun r1=>(match r1 with | .c0 r2=>some ((⟨[],[],[],0⟩:GDisk),1) | .c1 r3 r4 r5=>some ((⟨[],[],[],0⟩:GDisk),1) | .c2 r6 r7 r8=>bif (decide (0≤(p0.Inodes.length:Int))&&decide ((p0.Inodes.length:Int)*8≤140737488355328)&&decide ((p0.Inodes.length:Int)≤9223372036854775807)) then (dk_SyncDir_l0 n p0 r6 r7 r8 n [] (p0.Inodes.length:Int) 0 (List.replicate p0.Inodes.length 0)) else none)
def mf_Save (n:Nat) (p0:GDisk) (p1:GMf):Option (GDisk×Int):=match n with
 | m+9=>(mf_Encode (m+8) p1).bind fun r1=>(bif (r1.2 != 0) then (some ((⟨[],[],[],0⟩:GDisk),1)) else ((dk_Check (m+8) p0).bind fun r2=>(bif (r2 != 0) then (some ((⟨[],[],[],0⟩:GDisk),1)) else ((dk_Read (m+8) p0 (⟨#[77,65,78,73,70,69,83,84,46,110,101,119]⟩:ByteArray)).bind fun r3=>(bif (r3.2==0) then ((mf_Save_c1 (m+8) p0).bind fun r4=>(bif (r4.2 != 0) then (some (r4.1,r4.2)) else ((mf_Save_c2 (m+8) r4.1).bind fun r5=>(bif (r5.2 != 0) then (some (r5.1,r5.2)) else ((mf_Save_c3 (m+8) r5.1 r1.1).bind fun r6=>(bif (r6.2 != 0) then (some (r6.1,r6.2)) else ((mf_Save_c4 (m+8) r6.1).bind fun r7=>(bif (r7.2 != 0) then (some (r7.1,r7.2)) else ((mf_Save_c5 (m+8) r7.1).bind fun r8=>(bif (r8.2 != 0) then (some (r8.1,r8.2)) else ((dk_SyncDir (m+8) r8.1).bind fun r9=>(bif (r9.2 != 0) then (some (r9.1,r9.2)) else (some (r9.1,0)))))))))))))) else ((mf_Save_c2 (m+8) p0).bind fun r10=>(bif (r10.2 != 0) then (some (r10.1,r10.2)) else ((mf_Save_c3 (m+8) r10.1 r1.1).bind fun r11=>(bif (r11.2 != 0) then (some (r11.1,r11.2)) else ((mf_Save_c4 (m+8) r11.1).bind fun r12=>(bif (r12.2 != 0) then (some (r12.1,r12.2)) else ((mf_Save_c5 (m+8) r12.1).bind fun r13=>(bif (r13.2 != 0) then (some (r13.1,r13.2)) else ((dk_SyncDir (m+8) r13.1).bind fun r14=>(bif (r14.2 != 0) then (some (r14.1,r14.2)) else (some (r14.1,0)))))))))))))))))
 | _=>none
def r24_within (n:Nat) (p0:Int) (p1:Int) (p2:Int):Option Bool:=match n with
 | 0=>none
 | n+1=>bif (decide (p0≥p1)) then (some (decide (p0≤p2))) else (some false)
def r22_Name_s1 (n:Nat) (p0:ByteArray):Option Bool:=bif (decide ((p0.size:Int)>0)) then (some (decide ((p0.size:Int)≤60))) else (some false)
def r22_Name_l0 (n:Nat) (p0:ByteArray):Nat→Int→Option Bool
 | 0,_=>none
 | m+1,i1=>bif (decide (i1<(p0.size:Int))) then (bif (decide ((0:Int)≤i1)&&decide (i1<(p0.size:Int))) then (bif (decide ((bt p0 i1.toNat)≥97)) then (bif (decide ((bt p0 i1.toNat)≤122)) then (r22_Name_l0 n p0 m (IntKind.wrap .i64 (i1+1))) else (bif (decide ((bt p0 i1.toNat)≥65)) then (bif (decide ((bt p0 i1.toNat)≤90)) then (r22_Name_l0 n p0 m (IntKind.wrap .i64 (i1+1))) else (bif (decide ((bt p0 i1.toNat)≥48)) then (bif (decide ((bt p0 i1.toNat)≤57)) then (r22_Name_l0 n p0 m (IntKind.wrap .i64 (i1+1))) else (bif ((bt p0 i1.toNat)==46) then (r22_Name_l0 n p0 m (IntKind.wrap .i64 (i1+1))) else (bif ((bt p0 i1.toNat)==95) then (r22_Name_l0 n p0 m (IntKind.wrap .i64 (i1+1))) else (bif (!((bt p0 i1.toNat)==45)) then (some false) else (r22_Name_l0 n p0 m (IntKind.wrap .i64 (i1+1))))))) else (bif ((bt p0 i1.toNat)==46) then (r22_Name_l0 n p0 m (IntKind.wrap .i64 (i1+1))) else (bif ((bt p0 i1.toNat)==95) then (r22_Name_l0 n p0 m (IntKind.wrap .i64 (i1+1))) else (bif (!((bt p0 i1.toNat)==45)) then (some false) else (r22_Name_l0 n p0 m (IntKind.wrap .i64 (i1+1)))))))) else (bif (decide ((bt p0 i1.toNat)≥48)) then (bif (decide ((bt p0 i1.toNat)≤57)) then (r22_Name_l0 n p0 m (IntKind.wrap .i64 (i1+1))) else (bif ((bt p0 i1.toNat)==46) then (r22_Name_l0 n p0 m (IntKind.wrap .i64 (i1+1))) else (bif ((bt p0 i1.toNat)==95) then (r22_Name_l0 n p0 m (IntKind.wrap .i64 (i1+1))) else (bif (!((bt p0 i1.toNat)==45)) then (some false) else (r22_Name_l0 n p0 m (IntKind.wrap .i64 (i1+1))))))) else (bif ((bt p0 i1.toNat)==46) then (r22_Name_l0 n p0 m (IntKind.wrap .i64 (i1+1))) else (bif ((bt p0 i1.toNat)==95) then (r22_Name_l0 n p0 m (IntKind.wrap .i64 (i1+1))) else (bif (!((bt p0 i1.toNat)==45)) then (some false) else (r22_Name_l0 n p0 m (IntKind.wrap .i64 (i1+1))))))))) else (bif (decide ((bt p0 i1.toNat)≥65)) then (bif (decide ((bt p0 i1.toNat)≤90)) then (r22_Name_l0 n p0 m (IntKind.wrap .i64 (i1+1))) else (bif (decide ((bt p0 i1.toNat)≥48)) then (bif (decide ((bt p0 i1.toNat)≤57)) then (r22_Name_l0 n p0 m (IntKind.wrap .i64 (i1+1))) else (bif ((bt p0 i1.toNat)==46) then (r22_Name_l0 n p0 m (IntKind.wrap .i64 (i1+1))) else (bif ((bt p0 i1.toNat)==95) then (r22_Name_l0 n p0 m (IntKind.wrap .i64 (i1+1))) else (bif (!((bt p0 i1.toNat)==45)) then (some false) else (r22_Name_l0 n p0 m (IntKind.wrap .i64 (i1+1))))))) else (bif ((bt p0 i1.toNat)==46) then (r22_Name_l0 n p0 m (IntKind.wrap .i64 (i1+1))) else (bif ((bt p0 i1.toNat)==95) then (r22_Name_l0 n p0 m (IntKind.wrap .i64 (i1+1))) else (bif (!((bt p0 i1.toNat)==45)) then (some false) else (r22_Name_l0 n p0 m (IntKind.wrap .i64 (i1+1)))))))) else (bif (decide ((bt p0 i1.toNat)≥48)) then (bif (decide ((bt p0 i1.toNat)≤57)) then (r22_Name_l0 n p0 m (IntKind.wrap .i64 (i1+1))) else (bif ((bt p0 i1.toNat)==46) then (r22_Name_l0 n p0 m (IntKind.wrap .i64 (i1+1))) else (bif ((bt p0 i1.toNat)==95) then (r22_Name_l0 n p0 m (IntKind.wrap .i64 (i1+1))) else (bif (!((bt p0 i1.toNat)==45)) then (some false) else (r22_Name_l0 n p0 m (IntKind.wrap .i64 (i1+1))))))) else (bif ((bt p0 i1.toNat)==46) then (r22_Name_l0 n p0 m (IntKind.wrap .i64 (i1+1))) else (bif ((bt p0 i1.toNat)==95) then (r22_Name_l0 n p0 m (IntKind.wrap .i64 (i1+1))) else (bif (!((bt p0 i1.toNat)==45)) then (some false) else (r22_Name_l0 n p0 m (IntKind.wrap .i64 (i1+1))))))))) else none) else (r22_Name_s1 n p0)
def r22_Name (n:Nat) (p0:ByteArray):Option Bool:=match n with
 | 0=>none
 | n+1=>r22_Name_l0 n p0 n 0
def r24_name (n:Nat) (p0:ByteArray):Option Bool:=match n with
 | 0=>none
 | n+1=>(r22_Name n p0).bind fun r1=>(bif r1 then (bif (sNe p0 (⟨#[77,65,78,73,70,69,83,84]⟩:ByteArray)) then (some (sNe p0 (⟨#[77,65,78,73,70,69,83,84,46,110,101,119]⟩:ByteArray))) else (some false)) else (some false))
def r24_checkBlock_l0 (n:Nat) (p1:Int) (p0:GMf):Nat→Int→Int→ByteArray→Int→Int→Int→Int→Option Int
 | 0,_,_,_,_,_,_,_=>none
 | m+1,i1,i2,s1,i3,i4,i5,i6=>bif (decide (i6<p1)) then (bif (decide ((0:Int)≤i6)&&decide (i6<(p0.Blocks.length:Int))) then (bif (sEq ((p0.Blocks.getD i6.toNat dGBR).File) s1) then (some 6) else (r24_checkBlock_l0 n p1 p0 m i1 i2 s1 i3 i4 i5 (IntKind.wrap .i64 (i6+1)))) else none) else (some 0)
def r24_checkBlock (n:Nat) (p0:GMf) (p1:Int):Option Int:=match n with
 | 0=>none
 | n+1=>bif (decide ((0:Int)≤p1)&&decide (p1<(p0.Blocks.length:Int))) then ((r24_within n ((p0.Blocks.getD p1.toNat dGBR).Id) 1 (IntKind.wrap .i64 (p0.Next-1))).bind fun r1=>(bif (!r1) then (some 2) else (bif (decide (p1>0)) then (bif (decide ((0:Int)≤(IntKind.wrap .i64 (p1-1)))&&decide ((IntKind.wrap .i64 (p1-1))<(p0.Blocks.length:Int))) then (bif (decide ((p0.Blocks.getD p1.toNat dGBR).Id≤(p0.Blocks.getD ((IntKind.wrap .i64 (p1-1)).toNat) dGBR).Id)) then (some 9) else ((r24_within n ((p0.Blocks.getD p1.toNat dGBR).Width) 0 1099511627776).bind fun r2=>(bif (!r2) then (some 2) else ((r24_within n ((p0.Blocks.getD p1.toNat dGBR).MinTime) 1 1099511627776).bind fun r3=>(bif (!r3) then (some 2) else ((r24_within n ((p0.Blocks.getD p1.toNat dGBR).MaxTime) ((p0.Blocks.getD p1.toNat dGBR).MinTime) 1099511627776).bind fun r4=>(bif (!r4) then (some 2) else ((r24_within n ((p0.Blocks.getD p1.toNat dGBR).Size) 0 1048576).bind fun r5=>(bif (!r5) then (some 2) else ((r24_name n ((p0.Blocks.getD p1.toNat dGBR).File)).bind fun r6=>(bif (!r6) then (some 5) else (bif (sEq ((p0.Blocks.getD p1.toNat dGBR).File) p0.Log) then (some 6) else (r24_checkBlock_l0 n p1 p0 n ((p0.Blocks.getD p1.toNat dGBR).Id) ((p0.Blocks.getD p1.toNat dGBR).Width) ((p0.Blocks.getD p1.toNat dGBR).File) ((p0.Blocks.getD p1.toNat dGBR).MinTime) ((p0.Blocks.getD p1.toNat dGBR).MaxTime) ((p0.Blocks.getD p1.toNat dGBR).Size) 0))))))))))))) else none) else ((r24_within n ((p0.Blocks.getD p1.toNat dGBR).Width) 0 1099511627776).bind fun r7=>(bif (!r7) then (some 2) else ((r24_within n ((p0.Blocks.getD p1.toNat dGBR).MinTime) 1 1099511627776).bind fun r8=>(bif (!r8) then (some 2) else ((r24_within n ((p0.Blocks.getD p1.toNat dGBR).MaxTime) ((p0.Blocks.getD p1.toNat dGBR).MinTime) 1099511627776).bind fun r9=>(bif (!r9) then (some 2) else ((r24_within n ((p0.Blocks.getD p1.toNat dGBR).Size) 0 1048576).bind fun r10=>(bif (!r10) then (some 2) else ((r24_name n ((p0.Blocks.getD p1.toNat dGBR).File)).bind fun r11=>(bif (!r11) then (some 5) else (bif (sEq ((p0.Blocks.getD p1.toNat dGBR).File) p0.Log) then (some 6) else (r24_checkBlock_l0 n p1 p0 n ((p0.Blocks.getD p1.toNat dGBR).Id) ((p0.Blocks.getD p1.toNat dGBR).Width) ((p0.Blocks.getD p1.toNat dGBR).File) ((p0.Blocks.getD p1.toNat dGBR).MinTime) ((p0.Blocks.getD p1.toNat dGBR).MaxTime) ((p0.Blocks.getD p1.toNat dGBR).Size) 0))))))))))))))) else none
def r24_Check_l0 (n:Nat) (p0:GMf):Nat→Int→Option Int
 | 0,_=>none
 | m+1,i1=>bif (decide (i1<(p0.Blocks.length:Int))) then ((r24_checkBlock n p0 i1).bind fun r5=>(bif (r5 != 0) then (some r5) else (r24_Check_l0 n p0 m (IntKind.wrap .i64 (i1+1))))) else (some 0)
def r24_Check (n:Nat) (p0:GMf):Option Int:=match n with
 | 0=>none
 | n+1=>(r24_within n p0.Version 0 1152921504606846976).bind fun r1=>(bif (!r1) then (some 2) else ((r24_within n p0.Next 1 1152921504606846976).bind fun r2=>(bif (!r2) then (some 2) else ((r24_within n p0.RawFrom 0 1099511627776).bind fun r3=>(bif (!r3) then (some 2) else ((r24_name n p0.Log).bind fun r4=>(bif (!r4) then (some 5) else (bif (decide ((p0.Blocks.length:Int)>100)) then (some 4) else (r24_Check_l0 n p0 n 0)))))))))
def r24_lines_l0 (n:Nat) (p0:GMf):Nat→ByteArray→Int→Option ByteArray
 | 0,_,_=>none
 | m+1,s1,i1=>bif (decide (i1<(p0.Blocks.length:Int))) then (bif (decide ((0:Int)≤i1)&&decide (i1<(p0.Blocks.length:Int))) then (bif (decide (s1.size+6≤9223372036854775807)) then ((itoaS n ((p0.Blocks.getD i1.toNat dGBR).Id)).bind fun r4=>(bif (decide ((s1++(⟨#[98,108,111,99,107,32]⟩:ByteArray)).size+r4.size≤9223372036854775807)) then (bif (decide (((s1++(⟨#[98,108,111,99,107,32]⟩:ByteArray))++r4).size+1≤9223372036854775807)) then ((itoaS n ((p0.Blocks.getD i1.toNat dGBR).Width)).bind fun r5=>(bif (decide ((((s1++(⟨#[98,108,111,99,107,32]⟩:ByteArray))++r4)++(⟨#[32]⟩:ByteArray)).size+r5.size≤9223372036854775807)) then (bif (decide (((((s1++(⟨#[98,108,111,99,107,32]⟩:ByteArray))++r4)++(⟨#[32]⟩:ByteArray))++r5).size+1≤9223372036854775807)) then ((itoaS n ((p0.Blocks.getD i1.toNat dGBR).MinTime)).bind fun r6=>(bif (decide ((((((s1++(⟨#[98,108,111,99,107,32]⟩:ByteArray))++r4)++(⟨#[32]⟩:ByteArray))++r5)++(⟨#[32]⟩:ByteArray)).size+r6.size≤9223372036854775807)) then (bif (decide (((((((s1++(⟨#[98,108,111,99,107,32]⟩:ByteArray))++r4)++(⟨#[32]⟩:ByteArray))++r5)++(⟨#[32]⟩:ByteArray))++r6).size+1≤9223372036854775807)) then ((itoaS n ((p0.Blocks.getD i1.toNat dGBR).MaxTime)).bind fun r7=>(bif (decide ((((((((s1++(⟨#[98,108,111,99,107,32]⟩:ByteArray))++r4)++(⟨#[32]⟩:ByteArray))++r5)++(⟨#[32]⟩:ByteArray))++r6)++(⟨#[32]⟩:ByteArray)).size+r7.size≤9223372036854775807)) then (bif (decide (((((((((s1++(⟨#[98,108,111,99,107,32]⟩:ByteArray))++r4)++(⟨#[32]⟩:ByteArray))++r5)++(⟨#[32]⟩:ByteArray))++r6)++(⟨#[32]⟩:ByteArray))++r7).size+1≤9223372036854775807)) then ((itoaS n ((p0.Blocks.getD i1.toNat dGBR).Size)).bind fun r8=>(bif (decide ((((((((((s1++(⟨#[98,108,111,99,107,32]⟩:ByteArray))++r4)++(⟨#[32]⟩:ByteArray))++r5)++(⟨#[32]⟩:ByteArray))++r6)++(⟨#[32]⟩:ByteArray))++r7)++(⟨#[32]⟩:ByteArray)).size+r8.size≤9223372036854775807)) then (bif (decide (((((((((((s1++(⟨#[98,108,111,99,107,32]⟩:ByteArray))++r4)++(⟨#[32]⟩:ByteArray))++r5)++(⟨#[32]⟩:ByteArray))++r6)++(⟨#[32]⟩:ByteArray))++r7)++(⟨#[32]⟩:ByteArray))++r8).size+1≤9223372036854775807)) then (bif (decide ((((((((((((s1++(⟨#[98,108,111,99,107,32]⟩:ByteArray))++r4)++(⟨#[32]⟩:ByteArray))++r5)++(⟨#[32]⟩:ByteArray))++r6)++(⟨#[32]⟩:ByteArray))++r7)++(⟨#[32]⟩:ByteArray))++r8)++(⟨#[32]⟩:ByteArray)).size+((p0.Blocks.getD i1.toNat dGBR).File).size≤9223372036854775807)) then (bif (decide (((((((((((((s1++(⟨#[98,108,111,99,107,32]⟩:ByteArray))++r4)++(⟨#[32]⟩:ByteArray))++r5)++(⟨#[32]⟩:ByteArray))++r6)++(⟨#[32]⟩:ByteArray))++r7)++(⟨#[32]⟩:ByteArray))++r8)++(⟨#[32]⟩:ByteArray))++(p0.Blocks.getD i1.toNat dGBR).File).size+1≤9223372036854775807)) then (r24_lines_l0 n p0 m (((((((((((((s1++(⟨#[98,108,111,99,107,32]⟩:ByteArray))++r4)++(⟨#[32]⟩:ByteArray))++r5)++(⟨#[32]⟩:ByteArray))++r6)++(⟨#[32]⟩:ByteArray))++r7)++(⟨#[32]⟩:ByteArray))++r8)++(⟨#[32]⟩:ByteArray))++(p0.Blocks.getD i1.toNat dGBR).File)++(⟨#[10]⟩:ByteArray)) (IntKind.wrap .i64 (i1+1))) else none) else none) else none) else none)) else none) else none)) else none) else none)) else none) else none)) else none) else none)) else none) else none) else (some s1)
def r24_lines (n:Nat) (p0:GMf):Option ByteArray:=match n with
 | 0=>none
 | n+1=>(itoaS n p0.Version).bind fun r1=>(bif (decide (9+r1.size≤9223372036854775807)) then (bif (decide (((⟨#[109,97,110,105,102,101,115,116,32]⟩:ByteArray)++r1).size+1≤9223372036854775807)) then ((itoaS n p0.Next).bind fun r2=>(bif (decide ((((⟨#[109,97,110,105,102,101,115,116,32]⟩:ByteArray)++r1)++(⟨#[32]⟩:ByteArray)).size+r2.size≤9223372036854775807)) then (bif (decide (((((⟨#[109,97,110,105,102,101,115,116,32]⟩:ByteArray)++r1)++(⟨#[32]⟩:ByteArray))++r2).size+1≤9223372036854775807)) then ((itoaS n p0.RawFrom).bind fun r3=>(bif (decide ((((((⟨#[109,97,110,105,102,101,115,116,32]⟩:ByteArray)++r1)++(⟨#[32]⟩:ByteArray))++r2)++(⟨#[32]⟩:ByteArray)).size+r3.size≤9223372036854775807)) then (bif (decide (((((((⟨#[109,97,110,105,102,101,115,116,32]⟩:ByteArray)++r1)++(⟨#[32]⟩:ByteArray))++r2)++(⟨#[32]⟩:ByteArray))++r3).size+1≤9223372036854775807)) then (bif (decide ((((((((⟨#[109,97,110,105,102,101,115,116,32]⟩:ByteArray)++r1)++(⟨#[32]⟩:ByteArray))++r2)++(⟨#[32]⟩:ByteArray))++r3)++(⟨#[32]⟩:ByteArray)).size+p0.Log.size≤9223372036854775807)) then (bif (decide (((((((((⟨#[109,97,110,105,102,101,115,116,32]⟩:ByteArray)++r1)++(⟨#[32]⟩:ByteArray))++r2)++(⟨#[32]⟩:ByteArray))++r3)++(⟨#[32]⟩:ByteArray))++p0.Log).size+1≤9223372036854775807)) then (r24_lines_l0 n p0 n (((((((((⟨#[109,97,110,105,102,101,115,116,32]⟩:ByteArray)++r1)++(⟨#[32]⟩:ByteArray))++r2)++(⟨#[32]⟩:ByteArray))++r3)++(⟨#[32]⟩:ByteArray))++p0.Log)++(⟨#[10]⟩:ByteArray)) 0) else none) else none) else none) else none)) else none) else none)) else none) else none)
def r02_shift_s1 (n:Nat) (k_l0:Int→Int→Option Int) (i1:Int) (i4:Int):Option Int:=k_l0 i1 (IntKind.wrap .i64 (i4+1))
def r02_shift_l0 (n:Nat):Nat→Int→Int→Option Int
 | 0,_,_=>none
 | m+1,i2,i3=>bif (decide (i3<8)) then (bif ((Int.tmod i2 2)==1) then (r02_shift_s1 n (fun a0 a1=>r02_shift_l0 n m a0 a1) (iXor .u32 (IntKind.wrap .u32 (Int.tdiv i2 2)) 2197175160) i3) else (r02_shift_s1 n (fun a0 a1=>r02_shift_l0 n m a0 a1) (IntKind.wrap .u32 (Int.tdiv i2 2)) i3)) else (some i2)
def r02_shift (n:Nat) (p0:Int):Option Int:=match n with
 | 0=>none
 | n+1=>r02_shift_l0 n n p0 0
def r02_feed_l0 (n:Nat) (p1:ByteArray):Nat→Int→Int→Option Int
 | 0,_,_=>none
 | m+1,i1,i2=>bif (decide (i2<(p1.size:Int))) then (bif (decide ((0:Int)≤i2)&&decide (i2<(p1.size:Int))) then ((r02_shift n (iXor .u32 i1 (IntKind.wrap .u32 (bt p1 i2.toNat)))).bind fun r1=>(r02_feed_l0 n p1 m r1 (IntKind.wrap .i64 (i2+1)))) else none) else (some i1)
def r02_feed (n:Nat) (p0:Int) (p1:ByteArray):Option Int:=match n with
 | 0=>none
 | n+1=>r02_feed_l0 n p1 n p0 0
def r02_Sum (n:Nat) (p0:ByteArray):Option Int:=match n with
 | 0=>none
 | n+1=>(r02_feed n 4294967295 p0).bind fun r1=>(some (iNot .u32 r1))
def r02_Seal (n:Nat) (p0:ByteArray):Option ByteArray:=match n with
 | 0=>none
 | n+1=>(r02_Sum n p0).bind fun r1=>(bif (decide (p0.size+(bytesOf [(IntKind.wrap .u8 r1),(IntKind.wrap .u8 (iShr .u32 r1 8)),(IntKind.wrap .u8 (iShr .u32 r1 16)),(IntKind.wrap .u8 (iShr .u32 r1 24))]).size≤9223372036854775807)) then (some (p0++(bytesOf [(IntKind.wrap .u8 r1),(IntKind.wrap .u8 (iShr .u32 r1 8)),(IntKind.wrap .u8 (iShr .u32 r1 16)),(IntKind.wrap .u8 (iShr .u32 r1 24))]))) else none)
def r24_Encode (n:Nat) (p0:GMf):Option (ByteArray×Int):=match n with
 | 0=>none
 | n+1=>(r24_Check n p0).bind fun r1=>(bif (r1 != 0) then (some (bE,1)) else ((r24_lines n p0).bind fun r2=>((r02_Seal n r2).bind fun r3=>(some (r3,0)))))
def r22_find_l0 (n:Nat) (p0:List GDE) (p1:ByteArray):Nat→Int→Option Int
 | 0,_=>none
 | m+1,i1=>bif (decide (i1<(p0.length:Int))) then (bif (decide ((0:Int)≤i1)&&decide (i1<(p0.length:Int))) then (bif (sEq ((p0.getD i1.toNat dGDE).Name) p1) then (some i1) else (r22_find_l0 n p0 p1 m (IntKind.wrap .i64 (i1+1)))) else none) else (some (-1))
def r22_find (n:Nat) (p0:List GDE) (p1:ByteArray):Option Int:=match n with
 | 0=>none
 | n+1=>r22_find_l0 n p0 p1 n 0
def r22_with_s1 (n:Nat) (k_l0:(List GDE)→Bool→Int→Option (List GDE)) (p0:List GDE) (p1:GDE) (l1:List GDE) (b1:Bool) (i2:Int):Option (List GDE):=bif (decide ((0:Int)≤i2)&&decide (i2<(p0.length:Int))) then (bif (true&&(decide ((l1.length+1)*24≤140737488355328)&&decide (l1.length+1≤9223372036854775807))) then (k_l0 (l1++[(p0.getD i2.toNat dGDE)]) b1 (IntKind.wrap .i64 (i2+1))) else none) else none
def r22_with_s2 (n:Nat) (p1:GDE) (l3:List GDE) (b3:Bool):Option (List GDE):=bif (!b3) then (bif (true&&(decide ((l3.length+1)*24≤140737488355328)&&decide (l3.length+1≤9223372036854775807))) then (some (l3++[p1])) else none) else (some l3)
def r22_with_l0 (n:Nat) (p0:List GDE) (p1:GDE):Nat→(List GDE)→Bool→Int→Option (List GDE)
 | 0,_,_,_=>none
 | m+1,l2,b2,i1=>bif (decide (i1<(p0.length:Int))) then (bif (!b2) then (bif (decide ((0:Int)≤i1)&&decide (i1<(p0.length:Int))) then (bif (sGt ((p0.getD i1.toNat dGDE).Name) p1.Name) then (bif (true&&(decide ((l2.length+1)*24≤140737488355328)&&decide (l2.length+1≤9223372036854775807))) then (r22_with_s1 n (fun a0 a1 a2=>r22_with_l0 n p0 p1 m a0 a1 a2) p0 p1 (l2++[p1]) true i1) else none) else (r22_with_s1 n (fun a0 a1 a2=>r22_with_l0 n p0 p1 m a0 a1 a2) p0 p1 l2 b2 i1)) else none) else (r22_with_s1 n (fun a0 a1 a2=>r22_with_l0 n p0 p1 m a0 a1 a2) p0 p1 l2 b2 i1)) else (r22_with_s2 n p1 l2 b2)
def r22_with (n:Nat) (p0:List GDE) (p1:GDE):Option (List GDE):=match n with
 | 0=>none
 | n+1=>r22_with_l0 n p0 p1 n [] false 0
def r22_without_s1 (n:Nat) (k_l0:(List GDE)→Int→Option (List GDE)) (p0:List GDE) (p1:ByteArray) (l1:List GDE) (i2:Int):Option (List GDE):=k_l0 l1 (IntKind.wrap .i64 (i2+1))
def r22_without_l0 (n:Nat) (p0:List GDE) (p1:ByteArray):Nat→(List GDE)→Int→Option (List GDE)
 | 0,_,_=>none
 | m+1,l2,i1=>bif (decide (i1<(p0.length:Int))) then (bif (decide ((0:Int)≤i1)&&decide (i1<(p0.length:Int))) then (bif (sNe ((p0.getD i1.toNat dGDE).Name) p1) then (bif (decide ((0:Int)≤i1)&&decide (i1<(p0.length:Int))) then (bif (true&&(decide ((l2.length+1)*24≤140737488355328)&&decide (l2.length+1≤9223372036854775807))) then (r22_without_s1 n (fun a0 a1=>r22_without_l0 n p0 p1 m a0 a1) p0 p1 (l2++[(p0.getD i1.toNat dGDE)]) i1) else none) else none) else (r22_without_s1 n (fun a0 a1=>r22_without_l0 n p0 p1 m a0 a1) p0 p1 l2 i1)) else none) else (some l2)
def r22_without (n:Nat) (p0:List GDE) (p1:ByteArray):Option (List GDE):=match n with
 | 0=>none
 | n+1=>r22_without_l0 n p0 p1 n [] 0
def r22_apply_s1 (n:Nat) (k_l0:Bool→Int→Option ((List GDE)×Bool)) (p0:List GDE) (p2:Int) (p1:GDO) (r1:Int) (b1:Bool) (i2:Int):Option ((List GDE)×Bool):=k_l0 b1 (IntKind.wrap .i64 (i2+1))
def r22_apply_s3 (n:Nat) (p0:List GDE) (p1:GDO) (b2:Bool):Option ((List GDE)×Bool):=(r22_with n p0 (⟨p1.Name,p1.Inode⟩:GDE)).bind fun r3=>(some (r3,b2))
def r22_apply_s2 (n:Nat) (p0:List GDE) (p2:Int) (p1:GDO) (r1:Int) (b4:Bool):Option ((List GDE)×Bool):=(r22_Name n p1.Name).bind fun r2=>(bif r2 then (bif (decide (r1<0)) then (bif (decide (p1.Inode≥0)) then (bif (decide (p1.Inode<p2)) then (bif (!b4) then (r22_apply_s3 n p0 p1 (sEq p1.To bE)) else (r22_apply_s3 n p0 p1 false)) else (r22_apply_s3 n p0 p1 false)) else (r22_apply_s3 n p0 p1 false)) else (r22_apply_s3 n p0 p1 false)) else (r22_apply_s3 n p0 p1 false))
def r22_apply_l0 (n:Nat) (p0:List GDE) (p2:Int) (p1:GDO) (r1:Int):Nat→Bool→Int→Option ((List GDE)×Bool)
 | 0,_,_=>none
 | m+1,b3,i1=>bif (decide (i1<(p0.length:Int))) then (bif b3 then (r22_apply_s1 n (fun a0 a1=>r22_apply_l0 n p0 p2 p1 r1 m a0 a1) p0 p2 p1 r1 true i1) else (bif (decide ((0:Int)≤i1)&&decide (i1<(p0.length:Int))) then (r22_apply_s1 n (fun a0 a1=>r22_apply_l0 n p0 p2 p1 r1 m a0 a1) p0 p2 p1 r1 ((p0.getD i1.toNat dGDE).Inode==p1.Inode) i1) else none)) else (r22_apply_s2 n p0 p2 p1 r1 b3)
def r22_apply_s4 (n:Nat) (p0:List GDE) (p1:GDO) (r1:Int):Option ((List GDE)×Bool):=bif (decide (r1<0)) then (some (p0,false)) else (bif (p1.Inode != 0) then (some (p0,false)) else (bif (decide ((0:Int)≤r1)&&decide (r1<(p0.length:Int))) then ((r22_without n p0 p1.Name).bind fun r4=>(bif (p1.Kind==2) then ((r22_without n r4 p1.To).bind fun r5=>((r22_with n r5 (⟨p1.To,(p0.getD r1.toNat dGDE).Inode⟩:GDE)).bind fun r6=>((r22_Name n p1.To).bind fun r7=>(bif r7 then (some (r6,(sNe p1.To p1.Name))) else (some (r6,false)))))) else (bif (p1.Kind==3) then (some (r4,(sEq p1.To bE))) else (some (r4,false))))) else none))
def r22_apply (n:Nat) (p0:List GDE) (p1:GDO) (p2:Int):Option ((List GDE)×Bool):=match n with
 | 0=>none
 | n+1=>(r22_find n p0 p1.Name).bind fun r1=>(bif (p1.Kind==1) then (r22_apply_l0 n p0 p2 p1 r1 n false 0) else (r22_apply_s4 n p0 p1 r1))
def r22_after_s1 (n:Nat) (l2:List GDE) (b2:Bool):Option ((List GDE)×Bool):=some (l2,b2)
def r22_after_l0 (n:Nat) (p1:List GDO) (p2:Int):Nat→(List GDE)→Bool→Int→Option ((List GDE)×Bool)
 | 0,_,_,_=>none
 | m+1,l1,b1,i1=>bif b1 then (bif (decide (i1<(p1.length:Int))) then (bif (decide ((0:Int)≤i1)&&decide (i1<(p1.length:Int))) then ((r22_apply n l1 (p1.getD i1.toNat dGDO) p2).bind fun r1=>(r22_after_l0 n p1 p2 m r1.1 r1.2 (IntKind.wrap .i64 (i1+1)))) else none) else (r22_after_s1 n l1 b1)) else (r22_after_s1 n l1 b1)
def r22_after (n:Nat) (p0:List GDE) (p1:List GDO) (p2:Int):Option ((List GDE)×Bool):=match n with
 | 0=>none
 | n+1=>r22_after_l0 n p1 p2 n p0 true 0
def r22_Check_s4 (n:Nat) (k_l2:Int→Option Int) (p0:GDisk) (i5:Int):Option Int:=k_l2 (IntKind.wrap .i64 (i5+1))
def r22_Check_l3 (n:Nat) (k_l2:Int→Option Int) (p0:GDisk):Nat→Int→ByteArray→Int→Int→Option Int
 | 0,_,_,_,_=>none
 | m+1,i4,s1,i1,i6=>bif (decide (i6<i4)) then (bif (decide ((0:Int)≤i6)&&decide (i6<(p0.Durable.length:Int))) then (bif ((p0.Durable.getD i6.toNat dGDE).Inode==i1) then (some 1) else (r22_Check_l3 n k_l2 p0 m i4 s1 i1 (IntKind.wrap .i64 (i6+1)))) else none) else (r22_Check_s4 n k_l2 p0 i4)
def r22_Check_s5 (n:Nat) (p0:GDisk):Option Int:=(r22_after n p0.Durable p0.Pending (p0.Inodes.length:Int)).bind fun r2=>(bif (!r2.2) then (some 1) else (some 0))
def r22_Check_l2 (n:Nat) (p0:GDisk):Nat→Int→Option Int
 | 0,_=>none
 | m+1,i3=>bif (decide (i3<(p0.Durable.length:Int))) then (bif (decide ((0:Int)≤i3)&&decide (i3<(p0.Durable.length:Int))) then ((r22_Name n ((p0.Durable.getD i3.toNat dGDE).Name)).bind fun r1=>(bif (!r1) then (some 1) else (bif (decide (i3>0)) then (bif (decide ((0:Int)≤(IntKind.wrap .i64 (i3-1)))&&decide ((IntKind.wrap .i64 (i3-1))<(p0.Durable.length:Int))) then (bif (sGe ((p0.Durable.getD ((IntKind.wrap .i64 (i3-1)).toNat) dGDE).Name) ((p0.Durable.getD i3.toNat dGDE).Name)) then (some 1) else (bif (decide ((p0.Durable.getD i3.toNat dGDE).Inode<0)) then (some 1) else (bif (decide ((p0.Durable.getD i3.toNat dGDE).Inode≥(p0.Inodes.length:Int))) then (some 1) else (r22_Check_l3 n (fun a0=>r22_Check_l2 n p0 m a0) p0 n i3 ((p0.Durable.getD i3.toNat dGDE).Name) ((p0.Durable.getD i3.toNat dGDE).Inode) 0)))) else none) else (bif (decide ((p0.Durable.getD i3.toNat dGDE).Inode<0)) then (some 1) else (bif (decide ((p0.Durable.getD i3.toNat dGDE).Inode≥(p0.Inodes.length:Int))) then (some 1) else (r22_Check_l3 n (fun a0=>r22_Check_l2 n p0 m a0) p0 n i3 ((p0.Durable.getD i3.toNat dGDE).Name) ((p0.Durable.getD i3.toNat dGDE).Inode) 0)))))) else none) else (r22_Check_s5 n p0)
def r22_Check_s1 (n:Nat) (p0:GDisk):Option Int:=r22_Check_l2 n p0 n 0
def r22_Check_l0 (n:Nat) (p0:GDisk):Nat→Int→Option Int
 | 0,_=>none
 | m+1,i2=>bif (decide (i2<(p0.Inodes.length:Int))) then (bif (decide ((0:Int)≤i2)&&decide (i2<(p0.Inodes.length:Int))) then (bif (decide ((((p0.Inodes.getD i2.toNat dGI).Data).size:Int)>1048576)) then (some 1) else (bif (decide ((0:Int)≤i2)&&decide (i2<(p0.Inodes.length:Int))) then (bif (decide ((p0.Inodes.getD i2.toNat dGI).Synced<0)) then (some 1) else (bif (decide ((0:Int)≤i2)&&decide (i2<(p0.Inodes.length:Int))) then (bif (decide ((0:Int)≤i2)&&decide (i2<(p0.Inodes.length:Int))) then (bif (decide ((p0.Inodes.getD i2.toNat dGI).Synced>(((p0.Inodes.getD i2.toNat dGI).Data).size:Int))) then (some 1) else (r22_Check_l0 n p0 m (IntKind.wrap .i64 (i2+1)))) else none) else none)) else none)) else none) else (r22_Check_s1 n p0)
def r22_Check (n:Nat) (p0:GDisk):Option Int:=match n with
 | 0=>none
 | n+1=>bif (decide ((p0.Inodes.length:Int)>1000)) then (some 1) else (bif (decide ((p0.Durable.length:Int)>(p0.Inodes.length:Int))) then (some 1) else (bif (decide ((p0.Pending.length:Int)>1000)) then (some 1) else (bif (decide (p0.Left<(-1))) then (some 1) else (r22_Check_l0 n p0 n 0))))
def r22_current (n:Nat) (p0:GDisk):Option (List GDE):=match n with
 | 0=>none
 | n+1=>(r22_after n p0.Durable p0.Pending (p0.Inodes.length:Int)).bind fun r1=>(some r1.1)
def r22_List_l0 (n:Nat) (r2:(List GDE)):Nat→(List ByteArray)→Int→Option (List ByteArray)
 | 0,_,_=>none
 | m+1,l1,i1=>bif (decide (i1<(r2.length:Int))) then (bif (decide ((0:Int)≤i1)&&decide (i1<(r2.length:Int))) then (bif (true&&(decide ((l1.length+1)*16≤140737488355328)&&decide (l1.length+1≤9223372036854775807))) then (r22_List_l0 n r2 m (l1++[(r2.getD i1.toNat dGDE).Name]) (IntKind.wrap .i64 (i1+1))) else none) else none) else (some l1)
def r22_List (n:Nat) (p0:GDisk):Option (List ByteArray):=match n with
 | 0=>none
 | n+1=>(r22_Check n p0).bind fun r1=>(bif (r1 != 0) then (some []) else ((r22_current n p0).bind fun r2=>(r22_List_l0 n r2 n [] 0)))
def r24_Has_l0 (n:Nat) (p0:List ByteArray) (p1:ByteArray):Nat→Int→Option Bool
 | 0,_=>none
 | m+1,i1=>bif (decide (i1<(p0.length:Int))) then (bif (decide ((0:Int)≤i1)&&decide (i1<(p0.length:Int))) then (bif (sEq (p0.getD i1.toNat bE) p1) then (some true) else (r24_Has_l0 n p0 p1 m (IntKind.wrap .i64 (i1+1)))) else none) else (some false)
def r24_Has (n:Nat) (p0:List ByteArray) (p1:ByteArray):Option Bool:=match n with
 | 0=>none
 | n+1=>r24_Has_l0 n p0 p1 n 0
def r22_inode (n:Nat) (p0:GDisk) (p1:ByteArray):Option (Int×Int):=match n with
 | 0=>none
 | n+1=>(r22_Check n p0).bind fun r1=>(bif (r1 != 0) then (some (0,1)) else ((r22_current n p0).bind fun r2=>((r22_find n r2 p1).bind fun r3=>(bif (decide (r3<0)) then (some (0,7)) else (bif (decide ((0:Int)≤r3)&&decide (r3<(r2.length:Int))) then (some ((r2.getD r3.toNat dGDE).Inode,0)) else none)))))
def r22_powered_s0 (n:Nat) (p1:GDisk) (i1:Int):Option (GDisk×Int):=some ((⟨p1.Inodes,p1.Durable,p1.Pending,i1⟩:GDisk),0)
def r22_powered (n:Nat) (p0:GDisk) (p1:GDisk):Option (GDisk×Int):=match n with
 | 0=>none
 | n+1=>bif (p0.Left==0) then (some (p0,19)) else (bif (decide (p0.Left>0)) then (r22_powered_s0 n p1 (IntKind.wrap .i64 (p0.Left-1))) else (r22_powered_s0 n p1 p0.Left))
def r22_pending_s0 (n:Nat) (p0:GDisk) (l1:List GI) (l2:List GDO):Option (GDisk×Int):=(r22_powered n p0 (⟨l1,p0.Durable,l2,p0.Left⟩:GDisk)).bind fun r1=>(some (r1.1,r1.2))
def r22_pending_s1 (n:Nat) (p0:GDisk) (l3:List GDO):Option (GDisk×Int):=(r22_powered n p0 (⟨p0.Inodes,p0.Durable,l3,p0.Left⟩:GDisk)).bind fun r2=>(some (r2.1,r2.2))
def r22_pending (n:Nat) (p0:GDisk) (p1:GDO):Option (GDisk×Int):=match n with
 | 0=>none
 | n+1=>bif (decide ((p0.Pending.length:Int)≥1000)) then (some ((⟨[],[],[],0⟩:GDisk),18)) else (bif (true&&(decide ((0+p0.Pending.length)*48≤140737488355328)&&decide (0+p0.Pending.length≤9223372036854775807))) then (bif (true&&(decide ((p0.Pending.length+1)*48≤140737488355328)&&decide (p0.Pending.length+1≤9223372036854775807))) then (bif (p1.Kind==1) then (bif (true&&(decide ((0+p0.Inodes.length)*24≤140737488355328)&&decide (0+p0.Inodes.length≤9223372036854775807))) then (bif (true&&(decide ((p0.Inodes.length+1)*24≤140737488355328)&&decide (p0.Inodes.length+1≤9223372036854775807))) then (r22_pending_s0 n p0 (p0.Inodes++[(⟨bE,0⟩:GI)]) (p0.Pending++[p1])) else none) else none) else (r22_pending_s1 n p0 (p0.Pending++[p1]))) else none) else none)
def r22_Remove (n:Nat) (p0:GDisk) (p1:ByteArray):Option (GDisk×Int):=match n with
 | 0=>none
 | n+1=>(r22_inode n p0 p1).bind fun r1=>(bif (r1.2 != 0) then (some ((⟨[],[],[],0⟩:GDisk),r1.2)) else ((r22_pending n p0 (⟨3,p1,bE,0⟩:GDO)).bind fun r2=>(some (r2.1,r2.2))))
def r22_Create (n:Nat) (p0:GDisk) (p1:ByteArray):Option (GDisk×Int):=match n with
 | 0=>none
 | n+1=>(r22_inode n p0 p1).bind fun r1=>(bif (r1.2==1) then (some ((⟨[],[],[],0⟩:GDisk),r1.2)) else ((r22_Name n p1).bind fun r2=>(bif (!r2) then (some ((⟨[],[],[],0⟩:GDisk),5)) else (bif (r1.2==0) then (some ((⟨[],[],[],0⟩:GDisk),6)) else (bif (decide ((p0.Inodes.length:Int)≥1000)) then (some ((⟨[],[],[],0⟩:GDisk),18)) else ((r22_pending n p0 (⟨1,p1,bE,(p0.Inodes.length:Int)⟩:GDO)).bind fun r3=>(some (r3.1,r3.2))))))))
inductive r22_powered_v1_R where
 | c0 (a0:Nat) (a1:List GDE) (a2:List GDO) (a3:Int) (a4:Int) (a5:List GI)
 | c1 (a0:GDisk) (a1:Int) (a2:List GI)
def r22_powered_v1_s0 (n:Nat) (p1:Nat) (p2:List GDE) (p3:List GDO) (p5:List GI) (i1:Int):Option r22_powered_v1_R:=some (r22_powered_v1_R.c0 p1 p2 p3 i1 0 p5)
def r22_powered_v1 (n:Nat) (p0:GDisk) (p1:Nat) (p2:List GDE) (p3:List GDO) (p4:Int) (p5:List GI):Option r22_powered_v1_R:=match n with
 | 0=>none
 | n+1=>bif (p0.Left==0) then (some (r22_powered_v1_R.c1 p0 19 p5)) else (bif (decide (p0.Left>0)) then (r22_powered_v1_s0 n p1 p2 p3 p5 (IntKind.wrap .i64 (p0.Left-1))) else (r22_powered_v1_s0 n p1 p2 p3 p5 p0.Left))
def r22_changed (n:Nat) (p0:GDisk) (p1:Int) (p2:GI):Option (GDisk×Int):=match n with
 | 0=>none
 | n+1=>bif (true&&(decide ((0+p0.Inodes.length)*24≤140737488355328)&&decide (0+p0.Inodes.length≤9223372036854775807))) then (bif decide (0<p0.Inodes.length) then (bif (decide ((0:Int)≤p1)&&decide (p1<(p0.Inodes.length:Int))) then (bif Nat.blt p1.toNat p0.Inodes.length then ((r22_powered_v1 n p0 p0.Inodes.length p0.Durable p0.Pending p0.Left (p0.Inodes.set p1.toNat p2)).bind fun r2=>(match r2 with | .c0 r3 r4 r5 r6 r7 r8=>bif Nat.ble r3 r8.length then (some ((⟨(r8.take r3),r4,r5,r6⟩:GDisk),r7)) else none | .c1 r9 r10 r11=>some (r9,r10))) else none) else none) else (bif (decide ((0:Int)≤p1)&&decide (p1<(p0.Inodes.length:Int))) then (none) else none)) else none
def r22_Append (n:Nat) (p0:GDisk) (p1:ByteArray) (p2:ByteArray):Option (GDisk×Int):=match n with
 | 0=>none
 | n+1=>(r22_inode n p0 p1).bind fun r1=>(bif (r1.2 != 0) then (some ((⟨[],[],[],0⟩:GDisk),r1.2)) else (bif (decide ((0:Int)≤r1.1)&&decide (r1.1<(p0.Inodes.length:Int))) then (bif (decide ((IntKind.wrap .i64 ((((p0.Inodes.getD r1.1.toNat dGI).Data).size:Int)+(p2.size:Int)))>1048576)) then (some ((⟨[],[],[],0⟩:GDisk),18)) else (bif (decide (((p0.Inodes.getD r1.1.toNat dGI).Data).size+p2.size≤9223372036854775807)) then ((r22_changed n p0 r1.1 (⟨((p0.Inodes.getD r1.1.toNat dGI).Data++p2),(p0.Inodes.getD r1.1.toNat dGI).Synced⟩:GI)).bind fun r2=>(some (r2.1,r2.2))) else none)) else none))
def r22_Sync (n:Nat) (p0:GDisk) (p1:ByteArray):Option (GDisk×Int):=match n with
 | 0=>none
 | n+1=>(r22_inode n p0 p1).bind fun r1=>(bif (r1.2 != 0) then (some ((⟨[],[],[],0⟩:GDisk),r1.2)) else (bif (decide ((0:Int)≤r1.1)&&decide (r1.1<(p0.Inodes.length:Int))) then ((r22_changed n p0 r1.1 (⟨(p0.Inodes.getD r1.1.toNat dGI).Data,(((p0.Inodes.getD r1.1.toNat dGI).Data).size:Int)⟩:GI)).bind fun r2=>(some (r2.1,r2.2))) else none))
def r22_Rename (n:Nat) (p0:GDisk) (p1:ByteArray) (p2:ByteArray):Option (GDisk×Int):=match n with
 | 0=>none
 | n+1=>(r22_inode n p0 p1).bind fun r1=>(bif (r1.2 != 0) then (some ((⟨[],[],[],0⟩:GDisk),r1.2)) else ((r22_Name n p2).bind fun r2=>(bif (!r2) then (some ((⟨[],[],[],0⟩:GDisk),5)) else (bif (sEq p2 p1) then (some ((⟨[],[],[],0⟩:GDisk),6)) else ((r22_pending n p0 (⟨2,p1,p2,0⟩:GDO)).bind fun r3=>(some (r3.1,r3.2)))))))
inductive r22_powered_v2_R where
 | c0 (a0:GDisk) (a1:Int) (a2:List GDE)
 | c1 (a0:List GI) (a1:Nat) (a2:List GDO) (a3:Int) (a4:Int) (a5:List GDE)
def r22_powered_v2_s0 (n:Nat) (p1:List GI) (p2:Nat) (p3:List GDO) (p5:List GDE) (i1:Int):Option r22_powered_v2_R:=some (r22_powered_v2_R.c1 p1 p2 p3 i1 0 p5)
def r22_powered_v2 (n:Nat) (p0:GDisk) (p1:List GI) (p2:Nat) (p3:List GDO) (p4:Int) (p5:List GDE):Option r22_powered_v2_R:=match n with
 | 0=>none
 | n+1=>bif (p0.Left==0) then (some (r22_powered_v2_R.c0 p0 19 p5)) else (bif (decide (p0.Left>0)) then (r22_powered_v2_s0 n p1 p2 p3 p5 (IntKind.wrap .i64 (p0.Left-1))) else (r22_powered_v2_s0 n p1 p2 p3 p5 p0.Left))
def r22_SyncDir_s7 (n:Nat) (k_l5:(List GI)→Int→(List GDE)→Option (GDisk×Int)) (k_l6:(List GI)→Int→Int→(List GDE)→Option (GDisk×Int)) (p0:GDisk) (r2:(List GDE)) (l1:List GI) (i10:Int) (i11:Int) (l2:List GDE):Option (GDisk×Int):=k_l6 l1 i10 (IntKind.wrap .i64 (i11+1)) l2
def r22_SyncDir_s8 (n:Nat) (k_l5:(List GI)→Int→(List GDE)→Option (GDisk×Int)) (p0:GDisk) (r2:(List GDE)) (l5:List GI) (i12:Int) (l6:List GDE):Option (GDisk×Int):=k_l5 l5 (IntKind.wrap .i64 (i12+1)) l6
def r22_SyncDir_l6 (n:Nat) (k_l5:(List GI)→Int→(List GDE)→Option (GDisk×Int)) (p0:GDisk) (r2:(List GDE)):Nat→(List GI)→Int→Int→(List GDE)→Option (GDisk×Int)
 | 0,_,_,_,_=>none
 | m+1,l3,i8,i9,l4=>bif (decide (i9<(r2.length:Int))) then ((r22_current n p0).bind fun r3=>(bif (decide ((0:Int)≤i9)&&decide (i9<(r3.length:Int))) then (bif ((r3.getD i9.toNat dGDE).Inode==i8) then (bif (decide ((0:Int)≤i9)&&decide (i9<(r2.length:Int))) then (bif Nat.blt i9.toNat l4.length then (bif (decide ((0:Int)≤i8)&&decide (i8<(p0.Inodes.length:Int))) then (bif (true&&(decide ((l3.length+1)*24≤140737488355328)&&decide (l3.length+1≤9223372036854775807))) then (r22_SyncDir_s7 n k_l5 (fun a0 a1 a2 a3=>r22_SyncDir_l6 n k_l5 p0 r2 m a0 a1 a2 a3) p0 r2 (l3++[(p0.Inodes.getD i8.toNat dGI)]) i8 i9 (l4.set i9.toNat (⟨(l4.getD i9.toNat dGDE).Name,(l3.length:Int)⟩:GDE))) else none) else none) else none) else none) else (r22_SyncDir_s7 n k_l5 (fun a0 a1 a2 a3=>r22_SyncDir_l6 n k_l5 p0 r2 m a0 a1 a2 a3) p0 r2 l3 i8 i9 l4)) else none)) else (r22_SyncDir_s8 n k_l5 p0 r2 l3 i8 l4)
def r22_SyncDir_s9 (n:Nat) (p0:GDisk) (r2:(List GDE)) (l9:List GI) (l10:List GDE):Option (GDisk×Int):=(r22_powered_v2 n p0 l9 r2.length [] 0 l10).bind fun r5=>(match r5 with | .c0 r6 r7 r8=>some (r6,r7) | .c1 r9 r10 r11 r12 r13 r14=>bif Nat.ble r10 r14.length then (some ((⟨r9,(r14.take r10),r11,r12⟩:GDisk),r13)) else none)
def r22_SyncDir_l5 (n:Nat) (p0:GDisk) (r2:(List GDE)):Nat→(List GI)→Int→(List GDE)→Option (GDisk×Int)
 | 0,_,_,_=>none
 | m+1,l7,i7,l8=>bif (decide (i7<(p0.Inodes.length:Int))) then (r22_SyncDir_l6 n (fun a0 a1 a2=>r22_SyncDir_l5 n p0 r2 m a0 a1 a2) p0 r2 n l7 i7 0 l8) else (r22_SyncDir_s9 n p0 r2 l7 l8)
def r22_SyncDir_s2 (n:Nat) (k_l0:Int→Option (GDisk×Int)) (k_l1:Int→Int→Option (GDisk×Int)) (p0:GDisk) (r2:(List GDE)) (i4:Int) (i5:Int):Option (GDisk×Int):=k_l1 i4 (IntKind.wrap .i64 (i5+1))
def r22_SyncDir_s3 (n:Nat) (k_l0:Int→Option (GDisk×Int)) (p0:GDisk) (r2:(List GDE)) (i6:Int):Option (GDisk×Int):=k_l0 (IntKind.wrap .i64 (i6+1))
def r22_SyncDir_l1 (n:Nat) (k_l0:Int→Option (GDisk×Int)) (p0:GDisk) (r2:(List GDE)):Nat→Int→Int→Option (GDisk×Int)
 | 0,_,_=>none
 | m+1,i2,i3=>bif (decide (i3<(r2.length:Int))) then ((r22_current n p0).bind fun r15=>(bif (decide ((0:Int)≤i3)&&decide (i3<(r15.length:Int))) then (bif ((r15.getD i3.toNat dGDE).Inode==i2) then (bif (decide ((0:Int)≤i3)&&decide (i3<(r2.length:Int))) then (none) else none) else (r22_SyncDir_s2 n k_l0 (fun a0 a1=>r22_SyncDir_l1 n k_l0 p0 r2 m a0 a1) p0 r2 i2 i3)) else none)) else (r22_SyncDir_s3 n k_l0 p0 r2 i2)
def r22_SyncDir_s4 (n:Nat) (p0:GDisk) (r2:(List GDE)):Option (GDisk×Int):=(r22_powered n p0 (⟨[],r2,[],0⟩:GDisk)).bind fun r16=>(some (r16.1,r16.2))
def r22_SyncDir_l0 (n:Nat) (p0:GDisk) (r2:(List GDE)):Nat→Int→Option (GDisk×Int)
 | 0,_=>none
 | m+1,i1=>bif (decide (i1<(p0.Inodes.length:Int))) then (r22_SyncDir_l1 n (fun a0=>r22_SyncDir_l0 n p0 r2 m a0) p0 r2 n i1 0) else (r22_SyncDir_s4 n p0 r2)
def r22_SyncDir (n:Nat) (p0:GDisk):Option (GDisk×Int):=match n with
 | 0=>none
 | n+1=>(r22_Check n p0).bind fun r1=>(bif (r1 != 0) then (some ((⟨[],[],[],0⟩:GDisk),1)) else ((r22_current n p0).bind fun r2=>(bif (true&&(decide ((0+r2.length)*24≤140737488355328)&&decide (0+r2.length≤9223372036854775807))) then (bif decide (0<r2.length) then (r22_SyncDir_l5 n p0 r2 n [] 0 r2) else (r22_SyncDir_l0 n p0 r2 n 0)) else none)))
def r24_operation (n:Nat) (p0:Int) (p1:GDisk) (p2:ByteArray):Option (GDisk×Int):=match n with
 | 0=>none
 | n+1=>bif (p0==0) then ((r22_List n p1).bind fun r1=>((r24_Has n r1 (⟨#[77,65,78,73,70,69,83,84,46,110,101,119]⟩:ByteArray)).bind fun r2=>(bif (!r2) then (some (p1,0)) else ((r22_Remove n p1 (⟨#[77,65,78,73,70,69,83,84,46,110,101,119]⟩:ByteArray)).bind fun r3=>(some (r3.1,r3.2)))))) else (bif (p0==1) then ((r22_Create n p1 (⟨#[77,65,78,73,70,69,83,84,46,110,101,119]⟩:ByteArray)).bind fun r4=>(some (r4.1,r4.2))) else (bif (p0==2) then ((r22_Append n p1 (⟨#[77,65,78,73,70,69,83,84,46,110,101,119]⟩:ByteArray) p2).bind fun r5=>(some (r5.1,r5.2))) else (bif (p0==3) then ((r22_Sync n p1 (⟨#[77,65,78,73,70,69,83,84,46,110,101,119]⟩:ByteArray)).bind fun r6=>(some (r6.1,r6.2))) else (bif (p0==4) then ((r22_Rename n p1 (⟨#[77,65,78,73,70,69,83,84,46,110,101,119]⟩:ByteArray) (⟨#[77,65,78,73,70,69,83,84]⟩:ByteArray)).bind fun r7=>(some (r7.1,r7.2))) else ((r22_SyncDir n p1).bind fun r8=>(some (r8.1,r8.2)))))))
def r24_Save_s1 (n:Nat) (l1:List GI) (l2:List GDE) (l3:List GDO) (i1:Int):Option (GDisk×Int):=some ((⟨l1,l2,l3,i1⟩:GDisk),0)
def r24_Save_l0 (n:Nat) (r1:ByteArray×Int):Nat→(List GI)→(List GDE)→(List GDO)→Int→Int→Option (GDisk×Int)
 | 0,_,_,_,_,_=>none
 | m+1,l1,l2,l3,i1,i2=>bif (decide (i2<6)) then ((r24_operation n i2 (⟨l1,l2,l3,i1⟩:GDisk) r1.1).bind fun r3=>(bif (r3.2==19) then (some (r3.1,r3.2)) else (bif (r3.2 != 0) then (some ((⟨[],[],[],0⟩:GDisk),r3.2)) else (r24_Save_l0 n r1 m r3.1.Inodes r3.1.Durable r3.1.Pending r3.1.Left (IntKind.wrap .i64 (i2+1)))))) else (r24_Save_s1 n l1 l2 l3 i1)
def r24_Save (n:Nat) (p0:GDisk) (p1:GMf):Option (GDisk×Int):=match n with
 | 0=>none
 | n+1=>(r24_Encode n p1).bind fun r1=>((r22_Check n p0).bind fun r2=>(bif (r2 != 0) then (some ((⟨[],[],[],0⟩:GDisk),1)) else (bif (r1.2 != 0) then (some ((⟨[],[],[],0⟩:GDisk),1)) else (r24_Save_l0 n r1 n p0.Inodes p0.Durable p0.Pending p0.Left 0))))
def mf_Load (n:Nat) (p0:GDisk):Option (GMf×Int):=match n with
 | 0=>none
 | n+1=>(dk_Read n p0 (⟨#[77,65,78,73,70,69,83,84]⟩:ByteArray)).bind fun r1=>(bif (r1.2 != 0) then (some ((⟨0,0,0,bE,[]⟩:GMf),r1.2)) else ((mf_Decode n r1.1).bind fun r2=>(some (r2.1,r2.2))))
def r22_Read (n:Nat) (p0:GDisk) (p1:ByteArray):Option (ByteArray×Int):=match n with
 | 0=>none
 | n+1=>(r22_inode n p0 p1).bind fun r1=>(bif (r1.2 != 0) then (some (bE,r1.2)) else (bif (decide ((0:Int)≤r1.1)&&decide (r1.1<(p0.Inodes.length:Int))) then (some ((p0.Inodes.getD r1.1.toNat dGI).Data,0)) else none))
def r02_Open (n:Nat) (p0:ByteArray):Option (ByteArray×Int):=match n with
 | 0=>none
 | n+1=>bif (decide ((p0.size:Int)<4)) then (some (bE,11)) else (bif (decide ((0:Int)≤0)&&decide (0≤(IntKind.wrap .i64 ((p0.size:Int)-4)))&&decide ((IntKind.wrap .i64 ((p0.size:Int)-4))≤(p0.size:Int))) then ((r02_Seal n (ByteArray.extract p0 0 ((IntKind.wrap .i64 ((p0.size:Int)-4)).toNat))).bind fun r1=>(bif (sNe r1 p0) then (some (bE,13)) else (some ((ByteArray.extract p0 0 ((IntKind.wrap .i64 ((p0.size:Int)-4)).toNat)),0)))) else none)
def r24_words_s1 (n:Nat) (k_l0:(List ByteArray)→ByteArray→Int→Option ((List ByteArray)×ByteArray×Bool)) (p0:ByteArray) (l1:List ByteArray) (s1:ByteArray) (i2:Int):Option ((List ByteArray)×ByteArray×Bool):=bif (decide ((0:Int)≤i2)&&decide (i2<(p0.size:Int))) then (bif ((bt p0 i2.toNat)==10) then (bif (decide ((0:Int)≤(IntKind.wrap .i64 (i2+1)))&&decide ((IntKind.wrap .i64 (i2+1))≤(p0.size:Int))&&decide ((p0.size:Int)≤(p0.size:Int))) then (some (l1,(ByteArray.extract p0 ((IntKind.wrap .i64 (i2+1)).toNat) p0.size),true)) else none) else (k_l0 l1 s1 (IntKind.wrap .i64 (i2+1)))) else none
def r24_words_s2 (n:Nat) (l3:List ByteArray):Option ((List ByteArray)×ByteArray×Bool):=some (l3,bE,false)
def r24_words_l0 (n:Nat) (p0:ByteArray):Nat→(List ByteArray)→ByteArray→Int→Option ((List ByteArray)×ByteArray×Bool)
 | 0,_,_,_=>none
 | m+1,l2,s2,i1=>bif (decide (i1<(p0.size:Int))) then (bif (decide ((0:Int)≤i1)&&decide (i1<(p0.size:Int))) then (bif ((bt p0 i1.toNat)==32) then (bif (true&&(decide ((l2.length+1)*16≤140737488355328)&&decide (l2.length+1≤9223372036854775807))) then (r24_words_s1 n (fun a0 a1 a2=>r24_words_l0 n p0 m a0 a1 a2) p0 (l2++[s2]) bE i1) else none) else (bif (decide ((0:Int)≤i1)&&decide (i1<(p0.size:Int))) then (bif ((bt p0 i1.toNat)==10) then (bif (true&&(decide ((l2.length+1)*16≤140737488355328)&&decide (l2.length+1≤9223372036854775807))) then (r24_words_s1 n (fun a0 a1 a2=>r24_words_l0 n p0 m a0 a1 a2) p0 (l2++[s2]) bE i1) else none) else (bif (decide ((0:Int)≤i1)&&decide (i1≤(IntKind.wrap .i64 (i1+1)))&&decide ((IntKind.wrap .i64 (i1+1))≤(p0.size:Int))) then (bif (decide (s2.size+(ByteArray.extract p0 i1.toNat ((IntKind.wrap .i64 (i1+1)).toNat)).size≤9223372036854775807)) then (r24_words_s1 n (fun a0 a1 a2=>r24_words_l0 n p0 m a0 a1 a2) p0 l2 (s2++(ByteArray.extract p0 i1.toNat ((IntKind.wrap .i64 (i1+1)).toNat))) i1) else none) else none)) else none)) else none) else (r24_words_s2 n l2)
def r24_words (n:Nat) (p0:ByteArray):Option ((List ByteArray)×ByteArray×Bool):=match n with
 | 0=>none
 | n+1=>r24_words_l0 n p0 n [] bE 0
def r24_number_s1 (n:Nat) (p0:ByteArray) (i3:Int):Option (Int×Bool):=bif (decide ((p0.size:Int)>0)) then (some (i3,(decide (i3≤1152921504606846976)))) else (some (i3,false))
def r24_number_l0 (n:Nat) (p0:ByteArray):Nat→Int→Int→Option (Int×Bool)
 | 0,_,_=>none
 | m+1,i1,i2=>bif (decide (i2<(p0.size:Int))) then (bif (decide ((0:Int)≤i2)&&decide (i2<(p0.size:Int))) then (bif (decide ((bt p0 i2.toNat)<48)) then (some (0,false)) else (bif (decide ((0:Int)≤i2)&&decide (i2<(p0.size:Int))) then (bif (decide ((bt p0 i2.toNat)>57)) then (some (0,false)) else (bif (decide (i1>115292150460684697)) then (some (0,false)) else (bif (decide ((0:Int)≤i2)&&decide (i2<(p0.size:Int))) then (r24_number_l0 n p0 m (IntKind.wrap .i64 ((IntKind.wrap .i64 (i1*10))+(IntKind.wrap .i64 (IntKind.wrap .u8 ((bt p0 i2.toNat)-48))))) (IntKind.wrap .i64 (i2+1))) else none))) else none)) else none) else (r24_number_s1 n p0 i1)
def r24_number (n:Nat) (p0:ByteArray):Option (Int×Bool):=match n with
 | 0=>none
 | n+1=>r24_number_l0 n p0 n 0 0
def r24_numbers_l0 (n:Nat) (p0:List ByteArray):Nat→(List Int)→Int→Option ((List Int)×Bool)
 | 0,_,_=>none
 | m+1,l1,i1=>bif (decide (i1<(p0.length:Int))) then (bif (decide ((0:Int)≤i1)&&decide (i1<(p0.length:Int))) then ((r24_number n (p0.getD i1.toNat bE)).bind fun r1=>(bif (!r1.2) then (some (l1,false)) else (bif (true&&(decide ((l1.length+1)*8≤140737488355328)&&decide (l1.length+1≤9223372036854775807))) then (r24_numbers_l0 n p0 m (l1++[r1.1]) (IntKind.wrap .i64 (i1+1))) else none))) else none) else (some (l1,true))
def r24_numbers (n:Nat) (p0:List ByteArray):Option ((List Int)×Bool):=match n with
 | 0=>none
 | n+1=>r24_numbers_l0 n p0 n [] 0
def r24_parse_s1 (n:Nat) (i1:Int) (i2:Int) (i3:Int) (s1:ByteArray) (l2:List GBR):Option (GMf×Bool):=some ((⟨i1,i2,i3,s1,l2⟩:GMf),true)
def r24_parse_l0 (n:Nat):Nat→ByteArray→Int→Int→Int→ByteArray→(List GBR)→Option (GMf×Bool)
 | 0,_,_,_,_,_,_=>none
 | m+1,s2,i1,i2,i3,s1,l1=>bif (sNe s2 bE) then ((r24_words n s2).bind fun r4=>(bif (!r4.2.2) then (some ((⟨0,0,0,bE,[]⟩:GMf),false)) else (bif ((r4.1.length:Int) != 7) then (some ((⟨0,0,0,bE,[]⟩:GMf),false)) else (bif (decide ((0:Int)≤1)&&decide ((1:Int)≤6)&&decide ((6:Int)≤(r4.1.length:Int))) then ((r24_numbers n (List.drop 1 (List.take 6 r4.1))).bind fun r6=>(bif (!r6.2) then (some ((⟨0,0,0,bE,[]⟩:GMf),false)) else (bif (decide ((0:Int)≤0)&&decide ((0:Int)<(r6.1.length:Int))) then (bif (decide ((0:Int)≤1)&&decide ((1:Int)<(r6.1.length:Int))) then (bif (decide ((0:Int)≤2)&&decide ((2:Int)<(r6.1.length:Int))) then (bif (decide ((0:Int)≤3)&&decide ((3:Int)<(r6.1.length:Int))) then (bif (decide ((0:Int)≤4)&&decide ((4:Int)<(r6.1.length:Int))) then (bif (decide ((0:Int)≤6)&&decide ((6:Int)<(r4.1.length:Int))) then (bif (true&&(decide ((l1.length+1)*56≤140737488355328)&&decide (l1.length+1≤9223372036854775807))) then (r24_parse_l0 n m r4.2.1 i1 i2 i3 s1 (l1++[(⟨(r6.1.getD 0 0),(r6.1.getD 1 0),(r4.1.getD 6 bE),(r6.1.getD 2 0),(r6.1.getD 3 0),(r6.1.getD 4 0)⟩:GBR)])) else none) else none) else none) else none) else none) else none) else none))) else none)))) else (r24_parse_s1 n i1 i2 i3 s1 l1)
def r24_parse (n:Nat) (p0:ByteArray):Option (GMf×Bool):=match n with
 | 0=>none
 | n+1=>(r24_words n p0).bind fun r1=>(bif (!r1.2.2) then (some ((⟨0,0,0,bE,[]⟩:GMf),false)) else (bif ((r1.1.length:Int) != 5) then (some ((⟨0,0,0,bE,[]⟩:GMf),false)) else (bif (decide ((0:Int)≤1)&&decide ((1:Int)≤4)&&decide ((4:Int)≤(r1.1.length:Int))) then ((r24_numbers n (List.drop 1 (List.take 4 r1.1))).bind fun r3=>(bif (!r3.2) then (some ((⟨0,0,0,bE,[]⟩:GMf),false)) else (bif (decide ((0:Int)≤0)&&decide ((0:Int)<(r3.1.length:Int))) then (bif (decide ((0:Int)≤1)&&decide ((1:Int)<(r3.1.length:Int))) then (bif (decide ((0:Int)≤2)&&decide ((2:Int)<(r3.1.length:Int))) then (bif (decide ((0:Int)≤4)&&decide ((4:Int)<(r1.1.length:Int))) then (r24_parse_l0 n n r1.2.1 (r3.1.getD 0 0) (r3.1.getD 1 0) (r3.1.getD 2 0) (r1.1.getD 4 bE) []) else none) else none) else none) else none))) else none)))
def r24_Decode (n:Nat) (p0:ByteArray):Option (GMf×Int):=match n with
 | 0=>none
 | n+1=>(r02_Open n p0).bind fun r1=>(bif (r1.2 != 0) then (some ((⟨0,0,0,bE,[]⟩:GMf),r1.2)) else ((r24_parse n r1.1).bind fun r2=>(bif (!r2.2) then (some ((⟨0,0,0,bE,[]⟩:GMf),12)) else ((r24_Check n r2.1).bind fun r3=>(bif (r3 != 0) then (some ((⟨0,0,0,bE,[]⟩:GMf),12)) else ((r24_lines n r2.1).bind fun r4=>(bif (sNe r4 r1.1) then (some ((⟨0,0,0,bE,[]⟩:GMf),12)) else (some (r2.1,0)))))))))
def r24_Load (n:Nat) (p0:GDisk):Option (GMf×Int):=match n with
 | 0=>none
 | n+1=>(r22_Read n p0 (⟨#[77,65,78,73,70,69,83,84]⟩:ByteArray)).bind fun r1=>(bif (r1.2 != 0) then (some ((⟨0,0,0,bE,[]⟩:GMf),r1.2)) else ((r24_Decode n r1.1).bind fun r2=>(some (r2.1,r2.2))))
def r22_Same_l4 (n:Nat) (p0:GDisk) (p1:GDisk):Nat→Int→Option Bool
 | 0,_=>none
 | m+1,i3=>bif (decide (i3<(p0.Pending.length:Int))) then (bif (decide ((0:Int)≤i3)&&decide (i3<(p0.Pending.length:Int))) then (bif (decide ((0:Int)≤i3)&&decide (i3<(p1.Pending.length:Int))) then (bif (!(((p0.Pending.getD i3.toNat dGDO).Kind==(p1.Pending.getD i3.toNat dGDO).Kind)&&(((p0.Pending.getD i3.toNat dGDO).Name==(p1.Pending.getD i3.toNat dGDO).Name)&&(((p0.Pending.getD i3.toNat dGDO).To==(p1.Pending.getD i3.toNat dGDO).To)&&(((p0.Pending.getD i3.toNat dGDO).Inode==(p1.Pending.getD i3.toNat dGDO).Inode)&&true))))) then (some false) else (r22_Same_l4 n p0 p1 m (IntKind.wrap .i64 (i3+1)))) else none) else none) else (some true)
def r22_Same_s3 (n:Nat) (p0:GDisk) (p1:GDisk):Option Bool:=r22_Same_l4 n p0 p1 n 0
def r22_Same_l2 (n:Nat) (p0:GDisk) (p1:GDisk):Nat→Int→Option Bool
 | 0,_=>none
 | m+1,i2=>bif (decide (i2<(p0.Durable.length:Int))) then (bif (decide ((0:Int)≤i2)&&decide (i2<(p0.Durable.length:Int))) then (bif (decide ((0:Int)≤i2)&&decide (i2<(p1.Durable.length:Int))) then (bif (!(((p0.Durable.getD i2.toNat dGDE).Name==(p1.Durable.getD i2.toNat dGDE).Name)&&(((p0.Durable.getD i2.toNat dGDE).Inode==(p1.Durable.getD i2.toNat dGDE).Inode)&&true))) then (some false) else (r22_Same_l2 n p0 p1 m (IntKind.wrap .i64 (i2+1)))) else none) else none) else (r22_Same_s3 n p0 p1)
def r22_Same_s1 (n:Nat) (p0:GDisk) (p1:GDisk):Option Bool:=r22_Same_l2 n p0 p1 n 0
def r22_Same_l0 (n:Nat) (p0:GDisk) (p1:GDisk):Nat→Int→Option Bool
 | 0,_=>none
 | m+1,i1=>bif (decide (i1<(p0.Inodes.length:Int))) then (bif (decide ((0:Int)≤i1)&&decide (i1<(p0.Inodes.length:Int))) then (bif (decide ((0:Int)≤i1)&&decide (i1<(p1.Inodes.length:Int))) then (bif (!(((p0.Inodes.getD i1.toNat dGI).Data==(p1.Inodes.getD i1.toNat dGI).Data)&&(((p0.Inodes.getD i1.toNat dGI).Synced==(p1.Inodes.getD i1.toNat dGI).Synced)&&true))) then (some false) else (r22_Same_l0 n p0 p1 m (IntKind.wrap .i64 (i1+1)))) else none) else none) else (r22_Same_s1 n p0 p1)
def r22_Same (n:Nat) (p0:GDisk) (p1:GDisk):Option Bool:=match n with
 | 0=>none
 | n+1=>bif ((p0.Inodes.length:Int) != (p1.Inodes.length:Int)) then (some false) else (bif ((p0.Durable.length:Int) != (p1.Durable.length:Int)) then (some false) else (bif ((p0.Pending.length:Int) != (p1.Pending.length:Int)) then (some false) else (bif (p0.Left != p1.Left) then (some false) else (r22_Same_l0 n p0 p1 n 0))))
inductive dk_List_m_R where
 | c0 (a0:List ByteArray)
 | c1 (a0:List ByteArray) (a1:List (ByteArray×Int)) (a2:List Bool)
 | c2 (a0:List ByteArray) (a1:List (ByteArray×Int)) (a2:List Bool)
 | c3 (a0:Nat) (a1:List (ByteArray×Int)) (a2:List Bool) (a3:List ByteArray)
def dk_List_m (n:Nat) (p0:GDisk):Option dk_List_m_R:=match n with
 | 0=>none
 | n+1=>(dk_current n p0).bind fun r1=>(match r1 with | .c0 r2=>some (dk_List_m_R.c0 []) | .c1 r3 r4 r5=>some (dk_List_m_R.c1 [] r4 r5) | .c2 r6 r7 r8=>(maps_Keys n r7).bind fun r9=>((sortedM n r9).bind fun r10=>(match r10 with | .nil0=>some (dk_List_m_R.c2 [] r9 r8) | .row r11=>some (dk_List_m_R.c3 r11.length r9 r8 r11))))
def mf_Garbage_c1_c1 (n:Nat) (p0:GBR) (p1:ByteArray):Option Bool:=match n with
 | 0=>none
 | n+1=>some (sEq p0.File p1)
def sl_IndexFunc_55_l0 (n:Nat) (p0:List GBR) (p1:ByteArray):Nat→Int→Int→Option Int
 | 0,_,_=>none
 | m+1,i1,i2=>bif (decide (i2<i1)) then (bif (decide ((0:Int)≤i2)&&decide (i2<(p0.length:Int))) then ((mf_Garbage_c1_c1 n (p0.getD i2.toNat dGBR) p1).bind fun r1=>(bif r1 then (some i2) else (sl_IndexFunc_55_l0 n p0 p1 m i1 (IntKind.wrap .i64 (i2+1))))) else none) else (some (-1))
def sl_IndexFunc_55 (n:Nat) (p0:List GBR) (p1:ByteArray):Option Int:=match n with
 | 0=>none
 | n+1=>sl_IndexFunc_55_l0 n p0 p1 n (p0.length:Int) 0
def sl_ContainsFunc (n:Nat) (p0:List GBR) (p1:ByteArray):Option Bool:=match n with
 | 0=>none
 | n+1=>(sl_IndexFunc_55 n p0 p1).bind fun r1=>(some (decide (r1≥0)))
def mf_Garbage_c1 (n:Nat) (p0:ByteArray) (p1:GMf):Option Bool:=match n with
 | 0=>none
 | n+1=>bif (sEq p0 (⟨#[77,65,78,73,70,69,83,84]⟩:ByteArray)) then (some true) else (bif (sEq p0 p1.Log) then (some true) else ((sl_ContainsFunc n p1.Blocks p0).bind fun r1=>(some r1)))
def sl_IndexFunc_l0 (n:Nat) (p0:List ByteArray) (p1:GMf):Nat→Int→Int→Option Int
 | 0,_,_=>none
 | m+1,i1,i2=>bif (decide (i2<i1)) then (bif (decide ((0:Int)≤i2)&&decide (i2<(p0.length:Int))) then ((mf_Garbage_c1 n (p0.getD i2.toNat bE) p1).bind fun r1=>(bif r1 then (some i2) else (sl_IndexFunc_l0 n p0 p1 m i1 (IntKind.wrap .i64 (i2+1))))) else none) else (some (-1))
def sl_IndexFunc (n:Nat) (p0:List ByteArray) (p1:GMf):Option Int:=match n with
 | 0=>none
 | n+1=>sl_IndexFunc_l0 n p0 p1 n (p0.length:Int) 0
def sl_DeleteFunc_s1 (n:Nat) (k_l0:Int→Option (List ByteArray)) (p0:List ByteArray) (p1:GMf) (r1:Int) (i1:Int):Option (List ByteArray):=k_l0 (IntKind.wrap .i64 (i1+1))
def sl_DeleteFunc_s2 (n:Nat) (p0:List ByteArray) (r1:Int):Option (List ByteArray):=bif (decide ((0:Int)≤r1)&&decide (r1≤(p0.length:Int))&&decide ((p0.length:Int)≤(p0.length:Int))) then (none) else none
def sl_DeleteFunc_l0 (n:Nat) (p0:List ByteArray) (p1:GMf) (r1:Int):Nat→Int→Option (List ByteArray)
 | 0,_=>none
 | m+1,i1=>bif (decide (i1<(p0.length:Int))) then (bif (decide ((0:Int)≤i1)&&decide (i1<(p0.length:Int))) then ((mf_Garbage_c1 n (p0.getD i1.toNat bE) p1).bind fun r2=>(bif (!r2) then (bif (decide ((0:Int)≤r1)&&decide (r1<(p0.length:Int))) then (none) else none) else (sl_DeleteFunc_s1 n (fun a0=>sl_DeleteFunc_l0 n p0 p1 r1 m a0) p0 p1 r1 i1))) else none) else (sl_DeleteFunc_s2 n p0 r1)
def sl_DeleteFunc (n:Nat) (p0:List ByteArray) (p1:GMf):Option (List ByteArray):=match n with
 | 0=>none
 | n+1=>(sl_IndexFunc n p0 p1).bind fun r1=>(bif (r1==(-1)) then (some p0) else (sl_DeleteFunc_l0 n p0 p1 r1 n (IntKind.wrap .i64 (r1+1))))
def sl_IndexFunc_v1_l0 (n:Nat) (p0:Nat) (p1:GMf) (p2:List ByteArray):Nat→Int→Int→Option (Int×(List ByteArray))
 | 0,_,_=>none
 | m+1,i1,i2=>bif (decide (i2<i1)) then (bif (decide ((0:Int)≤i2)&&decide (i2<(p0:Int))) then (bif Nat.blt i2.toNat p2.length then ((mf_Garbage_c1 n (p2.getD i2.toNat bE) p1).bind fun r2=>(bif r2 then (some (i2,p2)) else (sl_IndexFunc_v1_l0 n p0 p1 p2 m i1 (IntKind.wrap .i64 (i2+1))))) else none) else none) else (some ((-1),p2))
def sl_IndexFunc_v1 (n:Nat) (p0:Nat) (p1:GMf) (p2:List ByteArray):Option (Int×(List ByteArray)):=match n with
 | 0=>none
 | n+1=>sl_IndexFunc_v1_l0 n p0 p1 p2 n (p0:Int) 0
inductive sl_DeleteFunc_v1_R where
 | c0 (a0:Nat) (a1:List ByteArray)
 | c1 (a0:List ByteArray) (a1:List ByteArray)
def sl_DeleteFunc_v1_s1 (n:Nat) (k_l0:Int→Int→(List ByteArray)→Option sl_DeleteFunc_v1_R) (p0:Nat) (p1:GMf) (i1:Int) (i2:Int) (l1:List ByteArray):Option sl_DeleteFunc_v1_R:=k_l0 i2 (IntKind.wrap .i64 (i1+1)) l1
def sl_DeleteFunc_v1_s2 (n:Nat) (p0:Nat) (i4:Int) (l3:List ByteArray):Option sl_DeleteFunc_v1_R:=bif (decide ((0:Int)≤i4)&&decide (i4≤(p0:Int))&&decide ((p0:Int)≤(p0:Int))) then (bif (decide (i4.toNat<p0)) then (bif Nat.ble (i4.toNat+(p0-i4.toNat)) l3.length then (bif (decide ((0:Int)≤0)&&decide (0≤i4)&&decide (i4≤(p0:Int))) then (bif (decide (0<i4.toNat)) then (some (sl_DeleteFunc_v1_R.c0 i4.toNat (clrL i4.toNat (p0-i4.toNat) bE l3))) else (some (sl_DeleteFunc_v1_R.c1 [] (clrL i4.toNat (p0-i4.toNat) bE l3)))) else none) else none) else (bif (decide ((0:Int)≤0)&&decide (0≤i4)&&decide (i4≤(p0:Int))) then (bif (decide (0<i4.toNat)) then (some (sl_DeleteFunc_v1_R.c0 i4.toNat l3)) else (some (sl_DeleteFunc_v1_R.c1 [] l3))) else none)) else none
def sl_DeleteFunc_v1_l0 (n:Nat) (p0:Nat) (p1:GMf):Nat→Int→Int→(List ByteArray)→Option sl_DeleteFunc_v1_R
 | 0,_,_,_=>none
 | m+1,i3,i1,l2=>bif (decide (i1<(p0:Int))) then (bif (decide ((0:Int)≤i1)&&decide (i1<(p0:Int))) then (bif Nat.blt i1.toNat l2.length then ((mf_Garbage_c1 n (l2.getD i1.toNat bE) p1).bind fun r3=>(bif (!r3) then (bif (decide ((0:Int)≤i3)&&decide (i3<(p0:Int))) then (bif Nat.blt i3.toNat l2.length then (sl_DeleteFunc_v1_s1 n (fun a0 a1 a2=>sl_DeleteFunc_v1_l0 n p0 p1 m a0 a1 a2) p0 p1 i1 (IntKind.wrap .i64 (i3+1)) (l2.set i3.toNat (l2.getD i1.toNat bE))) else none) else none) else (sl_DeleteFunc_v1_s1 n (fun a0 a1 a2=>sl_DeleteFunc_v1_l0 n p0 p1 m a0 a1 a2) p0 p1 i1 i3 l2))) else none) else none) else (sl_DeleteFunc_v1_s2 n p0 i3 l2)
def sl_DeleteFunc_v1 (n:Nat) (p0:Nat) (p1:GMf) (p2:List ByteArray):Option sl_DeleteFunc_v1_R:=match n with
 | 0=>none
 | n+1=>(sl_IndexFunc_v1 n p0 p1 p2).bind fun r1=>(bif (r1.1==(-1)) then (some (sl_DeleteFunc_v1_R.c0 p0 r1.2)) else (sl_DeleteFunc_v1_l0 n p0 p1 n r1.1 (IntKind.wrap .i64 (r1.1+1)) r1.2))
def mf_Garbage (n:Nat) (p0:GDisk) (p1:GMf):Option (List ByteArray):=match n with
 | 0=>none
 | n+1=>(mf_Check n p1).bind fun r1=>(bif (r1 != 0) then (some []) else ((dk_List_m n p0).bind fun r2=>(match r2 with | .c0 r3=>(sl_DeleteFunc n r3 p1).bind fun r4=>(some r4) | .c1 r5 r6 r7=>(sl_DeleteFunc n r5 p1).bind fun r8=>(some r8) | .c2 r9 r10 r11=>(sl_DeleteFunc n r9 p1).bind fun r12=>(some r12) | .c3 r13 r14 r15 r16=>(sl_DeleteFunc_v1 n r13 p1 r16).bind fun r17=>(match r17 with | .c0 r18 r19=>bif Nat.ble r18 r19.length then (some (r19.take r18)) else none | .c1 r20 r21=>some r20))))
def r24_Garbage_s3 (n:Nat) (k_l2:(List ByteArray)→Int→Option (List ByteArray)) (l1:List ByteArray) (r3:(List ByteArray)) (l2:List ByteArray) (i3:Int):Option (List ByteArray):=k_l2 l2 (IntKind.wrap .i64 (i3+1))
def r24_Garbage_l2 (n:Nat) (l1:List ByteArray) (r3:(List ByteArray)):Nat→(List ByteArray)→Int→Option (List ByteArray)
 | 0,_,_=>none
 | m+1,l3,i2=>bif (decide (i2<(r3.length:Int))) then (bif (decide ((0:Int)≤i2)&&decide (i2<(r3.length:Int))) then ((r24_Has n l1 (r3.getD i2.toNat bE)).bind fun r4=>(bif (!r4) then (bif (decide ((0:Int)≤i2)&&decide (i2<(r3.length:Int))) then (bif (true&&(decide ((l3.length+1)*16≤140737488355328)&&decide (l3.length+1≤9223372036854775807))) then (r24_Garbage_s3 n (fun a0 a1=>r24_Garbage_l2 n l1 r3 m a0 a1) l1 r3 (l3++[(r3.getD i2.toNat bE)]) i2) else none) else none) else (r24_Garbage_s3 n (fun a0 a1=>r24_Garbage_l2 n l1 r3 m a0 a1) l1 r3 l3 i2))) else none) else (some l3)
def r24_Garbage_s1 (n:Nat) (p0:GDisk) (l1:List ByteArray):Option (List ByteArray):=(r22_List n p0).bind fun r3=>(r24_Garbage_l2 n l1 r3 n [] 0)
def r24_Garbage_l0 (n:Nat) (p0:GDisk) (p1:GMf):Nat→(List ByteArray)→Int→Option (List ByteArray)
 | 0,_,_=>none
 | m+1,l1,i1=>bif (decide (i1<(p1.Blocks.length:Int))) then (bif (decide ((0:Int)≤i1)&&decide (i1<(p1.Blocks.length:Int))) then (bif (true&&(decide ((l1.length+1)*16≤140737488355328)&&decide (l1.length+1≤9223372036854775807))) then (r24_Garbage_l0 n p0 p1 m (l1++[(p1.Blocks.getD i1.toNat dGBR).File]) (IntKind.wrap .i64 (i1+1))) else none) else none) else (r24_Garbage_s1 n p0 l1)
def r24_Garbage (n:Nat) (p0:GDisk) (p1:GMf):Option (List ByteArray):=match n with
 | 0=>none
 | n+1=>(r22_Check n p0).bind fun r1=>(bif (r1 != 0) then (some []) else ((r24_Check n p1).bind fun r2=>(bif (r2 != 0) then (some []) else (r24_Garbage_l0 n p0 p1 n [(⟨#[77,65,78,73,70,69,83,84]⟩:ByteArray),p1.Log] 0))))
def sl_Equal_l0 (n:Nat) (p0:List ByteArray) (p1:List ByteArray):Nat→Int→Int→Option Bool
 | 0,_,_=>none
 | m+1,i1,i2=>bif (decide (i2<i1)) then (bif (decide ((0:Int)≤i2)&&decide (i2<(p0.length:Int))) then (bif (decide ((0:Int)≤i2)&&decide (i2<(p1.length:Int))) then (bif (sNe (p0.getD i2.toNat bE) (p1.getD i2.toNat bE)) then (some false) else (sl_Equal_l0 n p0 p1 m i1 (IntKind.wrap .i64 (i2+1)))) else none) else none) else (some true)
def sl_Equal (n:Nat) (p0:List ByteArray) (p1:List ByteArray):Option Bool:=match n with
 | 0=>none
 | n+1=>bif ((p0.length:Int) != (p1.length:Int)) then (some false) else (sl_Equal_l0 n p0 p1 n (p0.length:Int) 0)
def lookoutlaw24_ManifestSave (n:Nat) (p0:GDisk) (p1:GMf):Option Bool:=match n with
 | 0=>none
 | n+1=>(r24_Great n p1).bind fun r1=>(bif r1 then ((w24_awake n).bind fun r2=>(some r2)) else ((r22_Great n p0).bind fun r3=>(bif r3 then ((w24_awake n).bind fun r4=>(some r4)) else ((mf_Save n p0 p1).bind fun r5=>((r24_Save n p0 p1).bind fun r6=>((mf_Load n p0).bind fun r7=>((r24_Load n p0).bind fun r8=>((r22_Same n r5.1 r6.1).bind fun r9=>(bif r9 then (bif (r5.2==r6.2) then ((r24_Same n r7.1 r8.1).bind fun r10=>(bif r10 then (bif (r7.2==r8.2) then ((mf_Garbage n p0 p1).bind fun r11=>((r24_Garbage n p0 p1).bind fun r12=>((sl_Equal n r11 r12).bind fun r13=>(bif r13 then ((w24_awake n).bind fun r14=>(some r14)) else (some false))))) else (some false)) else (some false))) else (some false)) else (some false))))))))))
end Go.Proofs.YtomalcfghdaghaaGreatDoor
