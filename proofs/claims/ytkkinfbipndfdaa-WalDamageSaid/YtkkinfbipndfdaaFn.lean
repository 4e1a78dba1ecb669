/- PRINTED: the functions of the program, as typed functions. -/
import Derived.Test.YtkkinfbipndfdaaTy
set_option linter.unusedVariables false
set_option maxRecDepth 100000
set_option maxHeartbeats 0
namespace Go.Proofs.Ytkkinfbipndfdaa
open Go Go.AM
def lookoutlaw23_Fine_c1 (n : Nat) (p0 : ByteArray) : Option Bool := match n with
  | 0 => none
  | n + 1 => some (decide ((p0.size : Int) > 100))
def slices_IndexFunc_l0 (n : Nat) (p0 : List ByteArray) : Nat → Int → Int → Option Int
  | 0, _, _ => none
  | m + 1, i1, i2 => bif (decide (i2 < i1)) then (bif (decide ((0 : Int) ≤ i2) && decide (i2 < (p0.length : Int))) then ((lookoutlaw23_Fine_c1 n (p0.getD i2.toNat bE)).bind fun r1 => (bif r1 then (some i2) else (slices_IndexFunc_l0 n p0 m i1 (IntKind.wrap .i64 (i2 + 1))))) else none) else (some (-1))
def slices_IndexFunc (n : Nat) (p0 : List ByteArray) : Option Int := match n with
  | 0 => none
  | n + 1 => slices_IndexFunc_l0 n p0 n (p0.length : Int) 0
def slices_ContainsFunc (n : Nat) (p0 : List ByteArray) : Option Bool := match n with
  | 0 => none
  | n + 1 => (slices_IndexFunc n p0).bind fun r1 => (some (decide (r1 ≥ 0)))
def lookoutlaw23_Fine_s1 (n : Nat) (p0 : List Glookoutlaw23_Act) : Option Bool := some (decide ((p0.length : Int) ≤ 8))
def lookoutlaw23_Fine_l0 (n : Nat) (p0 : List Glookoutlaw23_Act) : Nat → Int → Int → Option Bool
  | 0, _, _ => none
  | m + 1, i1, i2 => bif (decide (i2 < i1)) then (bif (decide ((0 : Int) ≤ i2) && decide (i2 < (p0.length : Int))) then (bif (decide ((((p0.getD i2.toNat dGlookoutlaw23_Act).Records).length : Int) > 8)) then (some false) else (bif (decide ((((p0.getD i2.toNat dGlookoutlaw23_Act).Picks).length : Int) > 10)) then (some false) else ((slices_ContainsFunc n ((p0.getD i2.toNat dGlookoutlaw23_Act).Records)).bind fun r1 => (bif r1 then (some false) else (lookoutlaw23_Fine_l0 n p0 m i1 (IntKind.wrap .i64 (i2 + 1))))))) else none) else (lookoutlaw23_Fine_s1 n p0)
def lookoutlaw23_Fine (n : Nat) (p0 : List Glookoutlaw23_Act) : Option Bool := match n with
  | 0 => none
  | n + 1 => lookoutlaw23_Fine_l0 n p0 n (p0.length : Int) 0
def varint_appendGroups_s1 (n : Nat) (l2 : List Int) (i2 : Int) : Option (List Int) := bif (true && (decide ((l2.length + 1) * 1 ≤ 140737488355328) && decide (l2.length + 1 ≤ 9223372036854775807))) then (some (l2 ++ [(IntKind.wrap .u8 i2)])) else none
def varint_appendGroups_l0 (n : Nat) : Nat → (List Int) → Int → Option (List Int)
  | 0, _, _ => none
  | m + 1, l1, i1 => bif (decide (i1 ≥ 128)) then (bif (true && (decide ((l1.length + 1) * 1 ≤ 140737488355328) && decide (l1.length + 1 ≤ 9223372036854775807))) then (varint_appendGroups_l0 n m (l1 ++ [(iOr .u8 (IntKind.wrap .u8 (iAnd .u64 i1 127)) 128)]) (iShr .u64 i1 7)) else none) else (varint_appendGroups_s1 n l1 i1)
def varint_appendGroups (n : Nat) (p0 : Int) : Option (List Int) := match n with
  | 0 => none
  | n + 1 => varint_appendGroups_l0 n n [] p0
def varint_Append (n : Nat) (p0 : ByteArray) (p1 : Int) : Option (ByteArray × Int) := match n with
  | 0 => none
  | n + 1 => bif (decide (p1 < 0)) then (some (bE, 2)) else (bif (decide (p1 > 1152921504606846976)) then (some (bE, 2)) else ((varint_appendGroups n (IntKind.wrap .u64 p1)).bind fun r1 => (bif (decide (p0.size + (bytesOf r1).size ≤ 9223372036854775807)) then (some ((p0 ++ (bytesOf r1)), 0)) else none)))
def crc32c_shifted_s1 (n : Nat) (k_l0 : Int → Int → Option Int) (p1 : Int) (i1 : Int) (i4 : Int) : Option Int := k_l0 i1 (IntKind.wrap .i64 (i4 + 1))
def crc32c_shifted_l0 (n : Nat) (p1 : Int) : Nat → Int → Int → Option Int
  | 0, _, _ => none
  | m + 1, i2, i3 => bif (decide (i3 < p1)) then (bif ((iAnd .u32 i2 1) != 0) then (crc32c_shifted_s1 n (fun a0 a1 => crc32c_shifted_l0 n p1 m a0 a1) p1 (iXor .u32 (iShr .u32 i2 1) 2197175160) i3) else (crc32c_shifted_s1 n (fun a0 a1 => crc32c_shifted_l0 n p1 m a0 a1) p1 (iShr .u32 i2 1) i3)) else (some i2)
def crc32c_shifted (n : Nat) (p0 : Int) (p1 : Int) : Option Int := match n with
  | 0 => none
  | n + 1 => crc32c_shifted_l0 n p1 n p0 0
def crc32c_fed_l2 (n : Nat) (p1 : ByteArray) (l1 : List Int) : Nat → Int → Int → Option Int
  | 0, _, _ => none
  | m + 1, i2, i3 => bif (decide (i3 < (p1.size : Int))) then (bif (decide ((0 : Int) ≤ i3) && decide (i3 < (p1.size : Int))) then (bif (decide ((0 : Int) ≤ (iAnd .u32 (iXor .u32 i2 (IntKind.wrap .u32 (bt p1 i3.toNat))) 15)) && decide ((iAnd .u32 (iXor .u32 i2 (IntKind.wrap .u32 (bt p1 i3.toNat))) 15) < ((16 : Nat) : Int))) then (bif Nat.blt ((iAnd .u32 (iXor .u32 i2 (IntKind.wrap .u32 (bt p1 i3.toNat))) 15).toNat) l1.length then (bif (decide ((0 : Int) ≤ (iAnd .u32 (iXor .u32 (iShr .u32 (iXor .u32 i2 (IntKind.wrap .u32 (bt p1 i3.toNat))) 4) (l1.getD ((iAnd .u32 (iXor .u32 i2 (IntKind.wrap .u32 (bt p1 i3.toNat))) 15).toNat) 0)) 15)) && decide ((iAnd .u32 (iXor .u32 (iShr .u32 (iXor .u32 i2 (IntKind.wrap .u32 (bt p1 i3.toNat))) 4) (l1.getD ((iAnd .u32 (iXor .u32 i2 (IntKind.wrap .u32 (bt p1 i3.toNat))) 15).toNat) 0)) 15) < ((16 : Nat) : Int))) then (bif Nat.blt ((iAnd .u32 (iXor .u32 (iShr .u32 (iXor .u32 i2 (IntKind.wrap .u32 (bt p1 i3.toNat))) 4) (l1.getD ((iAnd .u32 (iXor .u32 i2 (IntKind.wrap .u32 (bt p1 i3.toNat))) 15).toNat) 0)) 15).toNat) l1.length then (crc32c_fed_l2 n p1 l1 m (iXor .u32 (iShr .u32 (iXor .u32 (iShr .u32 (iXor .u32 i2 (IntKind.wrap .u32 (bt p1 i3.toNat))) 4) (l1.getD ((iAnd .u32 (iXor .u32 i2 (IntKind.wrap .u32 (bt p1 i3.toNat))) 15).toNat) 0)) 4) (l1.getD ((iAnd .u32 (iXor .u32 (iShr .u32 (iXor .u32 i2 (IntKind.wrap .u32 (bt p1 i3.toNat))) 4) (l1.getD ((iAnd .u32 (iXor .u32 i2 (IntKind.wrap .u32 (bt p1 i3.toNat))) 15).toNat) 0)) 15).toNat) 0)) (IntKind.wrap .i64 (i3 + 1))) else none) else none) else none) else none) else none) else (some i2)
def crc32c_fed_s1 (n : Nat) (p0 : Int) (p1 : ByteArray) (l1 : List Int) : Option Int := crc32c_fed_l2 n p1 l1 n p0 0
def crc32c_fed_l0 (n : Nat) (p0 : Int) (p1 : ByteArray) : Nat → Int → (List Int) → Option Int
  | 0, _, _ => none
  | m + 1, i1, l1 => bif (decide (i1 < 16)) then ((crc32c_shifted n (IntKind.wrap .u32 i1) 4).bind fun r1 => (bif (decide ((0 : Int) ≤ i1) && decide (i1 < ((16 : Nat) : Int))) then (bif Nat.blt i1.toNat l1.length then (crc32c_fed_l0 n p0 p1 m (IntKind.wrap .i64 (i1 + 1)) (l1.set i1.toNat r1)) else none) else none)) else (crc32c_fed_s1 n p0 p1 l1)
def crc32c_fed (n : Nat) (p0 : Int) (p1 : ByteArray) : Option Int := match n with
  | 0 => none
  | n + 1 => crc32c_fed_l0 n p0 p1 n 0 (List.replicate 16 0)
def crc32c_Update (n : Nat) (p0 : Int) (p1 : ByteArray) : Option Int := match n with
  | 0 => none
  | n + 1 => (crc32c_fed n (iNot .u32 p0) p1).bind fun r1 => (some (iNot .u32 r1))
def crc32c_Sum (n : Nat) (p0 : ByteArray) : Option Int := match n with
  | 0 => none
  | n + 1 => (crc32c_Update n 0 p0).bind fun r1 => (some r1)
def crc32c_ending (n : Nat) (p0 : Int) : Option ByteArray := match n with
  | 0 => none
  | n + 1 => some (bytesOf [(IntKind.wrap .u8 p0), (IntKind.wrap .u8 (iShr .u32 p0 8)), (IntKind.wrap .u8 (iShr .u32 p0 16)), (IntKind.wrap .u8 (iShr .u32 p0 24))])
def crc32c_Seal (n : Nat) (p0 : ByteArray) : Option ByteArray := match n with
  | 0 => none
  | n + 1 => (crc32c_Sum n p0).bind fun r1 => ((crc32c_ending n r1).bind fun r2 => (bif (decide (p0.size + r2.size ≤ 9223372036854775807)) then (some (p0 ++ r2)) else none))
def wal_Frame (n : Nat) (p0 : ByteArray) : Option ByteArray := match n with
  | 0 => none
  | n + 1 => bif (decide ((p0.size : Int) > 262144)) then (some bE) else ((varint_Append n bE (p0.size : Int)).bind fun r1 => (bif (decide (r1.1.size + p0.size ≤ 9223372036854775807)) then ((crc32c_Seal n (r1.1 ++ p0)).bind fun r2 => (some r2)) else none))
def wal_frames (n : Nat) (p0 : ByteArray) : Option ByteArray := match n with
  | 0 => none
  | n + 1 => some p0
def varint_firstBytes (n : Nat) (p0 : ByteArray) : Option ByteArray := match n with
  | 0 => none
  | n + 1 => some p0
inductive varint_read_r0_R where
  | c0 (a0 : Int) (a1 : Int) (a2 : Int) (a3 : Int)
  | c1 (a0 : Int) (a1 : Int) (a2 : Int) (a3 : Int)
def varint_read_r0 (n : Nat) (p0 : Int) (p1 : Int) (p2 : Int) (p3 : Int) (p4 : Int) (p5 : Int) : Option varint_read_r0_R := match n with
  | 0 => none
  | n + 1 => bif (decide (p1 ≥ 128)) then (bif (p0 == 8) then (some (varint_read_r0_R.c0 0 0 12 p5)) else (bif (p1 == 0) then (bif (decide (p0 > 0)) then (some (varint_read_r0_R.c0 0 0 12 p5)) else (bif (decide (0 ≤ (IntKind.wrap .i64 (7 * p0)))) then (bif (decide (p1 < 128)) then (some (varint_read_r0_R.c0 (iOr .u64 p5 (iShl .u64 (IntKind.wrap .u64 (iAnd .u8 p1 127)) (IntKind.wrap .i64 (7 * p0)))) (IntKind.wrap .i64 (p0 + 1)) 0 (iOr .u64 p5 (iShl .u64 (IntKind.wrap .u64 (iAnd .u8 p1 127)) (IntKind.wrap .i64 (7 * p0)))))) else (some (varint_read_r0_R.c1 p2 p3 p4 (iOr .u64 p5 (iShl .u64 (IntKind.wrap .u64 (iAnd .u8 p1 127)) (IntKind.wrap .i64 (7 * p0))))))) else none)) else (bif (decide (0 ≤ (IntKind.wrap .i64 (7 * p0)))) then (bif (decide (p1 < 128)) then (some (varint_read_r0_R.c0 (iOr .u64 p5 (iShl .u64 (IntKind.wrap .u64 (iAnd .u8 p1 127)) (IntKind.wrap .i64 (7 * p0)))) (IntKind.wrap .i64 (p0 + 1)) 0 (iOr .u64 p5 (iShl .u64 (IntKind.wrap .u64 (iAnd .u8 p1 127)) (IntKind.wrap .i64 (7 * p0)))))) else (some (varint_read_r0_R.c1 p2 p3 p4 (iOr .u64 p5 (iShl .u64 (IntKind.wrap .u64 (iAnd .u8 p1 127)) (IntKind.wrap .i64 (7 * p0))))))) else none))) else (bif (p1 == 0) then (bif (decide (p0 > 0)) then (some (varint_read_r0_R.c0 0 0 12 p5)) else (bif (decide (0 ≤ (IntKind.wrap .i64 (7 * p0)))) then (bif (decide (p1 < 128)) then (some (varint_read_r0_R.c0 (iOr .u64 p5 (iShl .u64 (IntKind.wrap .u64 (iAnd .u8 p1 127)) (IntKind.wrap .i64 (7 * p0)))) (IntKind.wrap .i64 (p0 + 1)) 0 (iOr .u64 p5 (iShl .u64 (IntKind.wrap .u64 (iAnd .u8 p1 127)) (IntKind.wrap .i64 (7 * p0)))))) else (some (varint_read_r0_R.c1 p2 p3 p4 (iOr .u64 p5 (iShl .u64 (IntKind.wrap .u64 (iAnd .u8 p1 127)) (IntKind.wrap .i64 (7 * p0))))))) else none)) else (bif (decide (0 ≤ (IntKind.wrap .i64 (7 * p0)))) then (bif (decide (p1 < 128)) then (some (varint_read_r0_R.c0 (iOr .u64 p5 (iShl .u64 (IntKind.wrap .u64 (iAnd .u8 p1 127)) (IntKind.wrap .i64 (7 * p0)))) (IntKind.wrap .i64 (p0 + 1)) 0 (iOr .u64 p5 (iShl .u64 (IntKind.wrap .u64 (iAnd .u8 p1 127)) (IntKind.wrap .i64 (7 * p0)))))) else (some (varint_read_r0_R.c1 p2 p3 p4 (iOr .u64 p5 (iShl .u64 (IntKind.wrap .u64 (iAnd .u8 p1 127)) (IntKind.wrap .i64 (7 * p0))))))) else none))
inductive varint_firstBytes_c1_R where
  | c0 (a0 : Int) (a1 : Int) (a2 : Int) (a3 : Int) (a4 : ByteArray)
  | c1 (a0 : Int) (a1 : Int) (a2 : Int) (a3 : Int) (a4 : ByteArray)
def varint_firstBytes_c1_l0 (n : Nat) (p4 : ByteArray) : Nat → Int → Int → Int → Int → Int → Option varint_firstBytes_c1_R
  | 0, _, _, _, _, _ => none
  | m + 1, i1, i2, i3, i4, i5 => bif (decide (i1 < (p4.size : Int))) then (bif (decide (i1 < 9)) then (bif (decide ((0 : Int) ≤ i1) && decide (i1 < (p4.size : Int))) then ((varint_read_r0 n i1 (bt p4 i1.toNat) i2 i3 i4 i5).bind fun r1 => (match r1 with | .c0 r2 r3 r4 r5 => some (varint_firstBytes_c1_R.c1 r2 r3 r4 r5 p4) | .c1 r6 r7 r8 r9 => bif (decide ((0 : Int) ≤ i1) && decide (i1 < (p4.size : Int))) then (bif (decide ((bt p4 i1.toNat) < 128)) then (some (varint_firstBytes_c1_R.c0 r6 r7 r8 r9 p4)) else (varint_firstBytes_c1_l0 n p4 m (IntKind.wrap .i64 (i1 + 1)) r6 r7 r8 r9)) else none)) else none) else (some (varint_firstBytes_c1_R.c0 i2 i3 i4 i5 p4))) else (some (varint_firstBytes_c1_R.c0 i2 i3 i4 i5 p4))
def varint_firstBytes_c1 (n : Nat) (p0 : Int) (p1 : Int) (p2 : Int) (p3 : Int) (p4 : ByteArray) : Option varint_firstBytes_c1_R := match n with
  | 0 => none
  | n + 1 => varint_firstBytes_c1_l0 n p4 n 0 p0 p1 p2 p3
def varint_read_s0 (n : Nat) (r3 : Int) (r4 : Int) (r5 : Int) (r6 : Int) (r7 : ByteArray) : Option (Int × Int × Int) := some (0, 0, 11)
def varint_read (n : Nat) (p0 : ByteArray) : Option (Int × Int × Int) := match n with
  | 0 => none
  | n + 1 => (varint_firstBytes n p0).bind fun r1 => ((varint_firstBytes_c1 n 0 0 0 0 r1).bind fun r2 => (match r2 with | .c0 r3 r4 r5 r6 r7 => varint_read_s0 n r3 r4 r5 r6 r7 | .c1 r8 r9 r10 r11 r12 => some (r8, r9, r10)))
def varint_Read (n : Nat) (p0 : ByteArray) : Option (Int × Int × Int) := match n with
  | 0 => none
  | n + 1 => (varint_read n p0).bind fun r1 => (bif (r1.2.2 != 0) then (some (0, 0, r1.2.2)) else (bif (decide (r1.1 > 1152921504606846976)) then (some (0, 0, 12)) else (some ((IntKind.wrap .i64 r1.1), r1.2.1, 0))))
def crc32c_Open (n : Nat) (p0 : ByteArray) : Option (ByteArray × Int) := match n with
  | 0 => none
  | n + 1 => bif (decide ((p0.size : Int) < 4)) then (some (bE, 11)) else (bif (decide ((0 : Int) ≤ 0) && decide (0 ≤ (IntKind.wrap .i64 ((p0.size : Int) - 4))) && decide ((IntKind.wrap .i64 ((p0.size : Int) - 4)) ≤ (p0.size : Int))) then (bif (decide ((0 : Int) ≤ ((ByteArray.extract p0 0 ((IntKind.wrap .i64 ((p0.size : Int) - 4)).toNat)).size : Int)) && decide (((ByteArray.extract p0 0 ((IntKind.wrap .i64 ((p0.size : Int) - 4)).toNat)).size : Int) ≤ (p0.size : Int)) && decide ((p0.size : Int) ≤ (p0.size : Int))) then ((crc32c_Sum n (ByteArray.extract p0 0 ((IntKind.wrap .i64 ((p0.size : Int) - 4)).toNat))).bind fun r1 => ((crc32c_ending n r1).bind fun r2 => (bif (sNe (ByteArray.extract p0 ((ByteArray.extract p0 0 ((IntKind.wrap .i64 ((p0.size : Int) - 4)).toNat)).size) p0.size) r2) then (some (bE, 13)) else (some ((ByteArray.extract p0 0 ((IntKind.wrap .i64 ((p0.size : Int) - 4)).toNat)), 0))))) else none) else none)
def wal_Scan_r0 (n : Nat) (p0 : Int) (p1 : ByteArray) (p2 : List ByteArray) (p3 : Int) : Option ((List ByteArray) × Int) := match n with
  | 0 => none
  | n + 1 => bif (true && (decide ((p2.length + 1) * 16 ≤ 140737488355328) && decide (p2.length + 1 ≤ 9223372036854775807))) then (some ((p2 ++ [p1]), p0)) else none
def wal_frames_c1_l0 (n : Nat) (p2 : ByteArray) : Nat → Int → (List ByteArray) → Int → Option ((List ByteArray) × Int × ByteArray)
  | 0, _, _, _ => none
  | m + 1, i1, l1, i2 => bif (decide ((0 : Int) ≤ i1) && decide (i1 ≤ (p2.size : Int)) && decide ((p2.size : Int) ≤ (p2.size : Int))) then ((varint_Read n (ByteArray.extract p2 i1.toNat p2.size)).bind fun r1 => (bif (r1.2.2 != 0) then (some (l1, i2, p2)) else (bif (decide (r1.1 > 262144)) then (some (l1, i2, p2)) else (bif (decide (r1.1 > (IntKind.wrap .i64 ((IntKind.wrap .i64 ((IntKind.wrap .i64 ((p2.size : Int) - i1)) - r1.2.1)) - 4)))) then (some (l1, i2, p2)) else (bif (decide ((0 : Int) ≤ i1) && decide (i1 ≤ (IntKind.wrap .i64 ((IntKind.wrap .i64 ((IntKind.wrap .i64 (i1 + r1.2.1)) + r1.1)) + 4))) && decide ((IntKind.wrap .i64 ((IntKind.wrap .i64 ((IntKind.wrap .i64 (i1 + r1.2.1)) + r1.1)) + 4)) ≤ (p2.size : Int))) then ((crc32c_Open n (ByteArray.extract p2 i1.toNat ((IntKind.wrap .i64 ((IntKind.wrap .i64 ((IntKind.wrap .i64 (i1 + r1.2.1)) + r1.1)) + 4)).toNat))).bind fun r2 => (bif (r2.2 != 0) then (some (l1, i2, p2)) else (bif (decide ((0 : Int) ≤ r1.2.1) && decide (r1.2.1 ≤ (r2.1.size : Int)) && decide ((r2.1.size : Int) ≤ (r2.1.size : Int))) then ((wal_Scan_r0 n (IntKind.wrap .i64 ((IntKind.wrap .i64 ((IntKind.wrap .i64 (i1 + r1.2.1)) + r1.1)) + 4)) (ByteArray.extract r2.1 r1.2.1.toNat r2.1.size) l1 i2).bind fun r3 => (wal_frames_c1_l0 n p2 m (IntKind.wrap .i64 ((IntKind.wrap .i64 ((IntKind.wrap .i64 (i1 + r1.2.1)) + r1.1)) + 4)) r3.1 r3.2)) else none))) else none))))) else none
def wal_frames_c1 (n : Nat) (p0 : List ByteArray) (p1 : Int) (p2 : ByteArray) : Option ((List ByteArray) × Int × ByteArray) := match n with
  | 0 => none
  | n + 1 => wal_frames_c1_l0 n p2 n 0 p0 p1
def wal_Scan_s0 (n : Nat) (r2 : (List ByteArray) × Int × ByteArray) : Option ((List ByteArray) × Int) := some (r2.1, r2.2.1)
def wal_Scan (n : Nat) (p0 : ByteArray) : Option ((List ByteArray) × Int) := match n with
  | 0 => none
  | n + 1 => (wal_frames n p0).bind fun r1 => ((wal_frames_c1 n [] 0 r1).bind fun r2 => (wal_Scan_s0 n r2))
def disk_New (n : Nat) : Option Int := match n with
  | 0 => none
  | n + 1 => some (-1)
def disk_isName_s1 (n : Nat) (k_l0 : Int → Int → Option Bool) (p0 : ByteArray) (i1 : Int) (i2 : Int) (b1 : Bool) (i4 : Int) : Option Bool := bif (!b1) then (bif (decide (i2 < 48)) then (bif (i2 != 46) then (bif (i2 != 95) then (bif (i2 != 45) then (some false) else (k_l0 i1 (IntKind.wrap .i64 (i4 + 1)))) else (k_l0 i1 (IntKind.wrap .i64 (i4 + 1)))) else (k_l0 i1 (IntKind.wrap .i64 (i4 + 1)))) else (bif (decide (i2 > 57)) then (bif (i2 != 46) then (bif (i2 != 95) then (bif (i2 != 45) then (some false) else (k_l0 i1 (IntKind.wrap .i64 (i4 + 1)))) else (k_l0 i1 (IntKind.wrap .i64 (i4 + 1)))) else (k_l0 i1 (IntKind.wrap .i64 (i4 + 1)))) else (k_l0 i1 (IntKind.wrap .i64 (i4 + 1))))) else (k_l0 i1 (IntKind.wrap .i64 (i4 + 1)))
def disk_isName_l0 (n : Nat) (p0 : ByteArray) : Nat → Int → Int → Option Bool
  | 0, _, _ => none
  | m + 1, i1, i3 => bif (decide (i3 < i1)) then (bif (decide ((0 : Int) ≤ i3) && decide (i3 < (p0.size : Int))) then (bif (decide ((bt p0 i3.toNat) ≥ 65)) then (bif (decide ((bt p0 i3.toNat) ≤ 90)) then (disk_isName_s1 n (fun a0 a1 => disk_isName_l0 n p0 m a0 a1) p0 i1 (bt p0 i3.toNat) true i3) else (bif (decide ((bt p0 i3.toNat) ≥ 97)) then (disk_isName_s1 n (fun a0 a1 => disk_isName_l0 n p0 m a0 a1) p0 i1 (bt p0 i3.toNat) (decide ((bt p0 i3.toNat) ≤ 122)) i3) else (disk_isName_s1 n (fun a0 a1 => disk_isName_l0 n p0 m a0 a1) p0 i1 (bt p0 i3.toNat) false i3))) else (bif (decide ((bt p0 i3.toNat) ≥ 97)) then (disk_isName_s1 n (fun a0 a1 => disk_isName_l0 n p0 m a0 a1) p0 i1 (bt p0 i3.toNat) (decide ((bt p0 i3.toNat) ≤ 122)) i3) else (disk_isName_s1 n (fun a0 a1 => disk_isName_l0 n p0 m a0 a1) p0 i1 (bt p0 i3.toNat) false i3))) else none) else (some true)
def disk_isName (n : Nat) (p0 : ByteArray) : Option Bool := match n with
  | 0 => none
  | n + 1 => bif (decide ((p0.size : Int) < 1)) then (some false) else (bif (decide ((p0.size : Int) > 60)) then (some false) else (disk_isName_l0 n p0 n (p0.size : Int) 0))
def disk_durable_s1 (n : Nat) (p0 : GDisk) (l1 : List Bool) (l3 : List (ByteArray × Int)) : Option (Nat × Bool × (List (ByteArray × Int)) × (List Bool)) := some (p0.Inodes.length, true, l3, l1)
def disk_durable_l0 (n : Nat) (p0 : GDisk) : Nat → Int → Int → (List (ByteArray × Int)) → (List Bool) → Option (Nat × Bool × (List (ByteArray × Int)) × (List Bool))
  | 0, _, _, _, _ => none
  | m + 1, i1, i2, l2, l1 => bif (decide (i2 < i1)) then (bif (decide ((0 : Int) ≤ i2) && decide (i2 < (p0.Durable.length : Int))) then ((disk_isName n ((p0.Durable.getD i2.toNat dGDirEntry).Name)).bind fun r1 => (bif (!r1) then (some (p0.Inodes.length, false, l2, l1)) else (bif (decide (i2 > 0)) then (bif (decide ((0 : Int) ≤ (IntKind.wrap .i64 (i2 - 1))) && decide ((IntKind.wrap .i64 (i2 - 1)) < (p0.Durable.length : Int))) then (bif (sLe ((p0.Durable.getD i2.toNat dGDirEntry).Name) ((p0.Durable.getD ((IntKind.wrap .i64 (i2 - 1)).toNat) dGDirEntry).Name)) then (some (p0.Inodes.length, false, l2, l1)) else (bif (decide ((p0.Durable.getD i2.toNat dGDirEntry).Inode < 0)) then (some (p0.Inodes.length, false, l2, l1)) else (bif (decide ((p0.Durable.getD i2.toNat dGDirEntry).Inode ≥ (p0.Inodes.length : Int))) then (some (p0.Inodes.length, false, l2, l1)) else (bif (decide ((0 : Int) ≤ (p0.Durable.getD i2.toNat dGDirEntry).Inode) && decide ((p0.Durable.getD i2.toNat dGDirEntry).Inode < (p0.Inodes.length : Int))) then (bif Nat.blt (((p0.Durable.getD i2.toNat dGDirEntry).Inode).toNat) l1.length then (bif (l1.getD (((p0.Durable.getD i2.toNat dGDirEntry).Inode).toNat) false) then (some (p0.Inodes.length, false, l2, l1)) else (bif (decide ((0 : Int) ≤ (p0.Durable.getD i2.toNat dGDirEntry).Inode) && decide ((p0.Durable.getD i2.toNat dGDirEntry).Inode < (p0.Inodes.length : Int))) then (bif Nat.blt (((p0.Durable.getD i2.toNat dGDirEntry).Inode).toNat) l1.length then (disk_durable_l0 n p0 m i1 (IntKind.wrap .i64 (i2 + 1)) (putL ((p0.Durable.getD i2.toNat dGDirEntry).Name) ((p0.Durable.getD i2.toNat dGDirEntry).Inode) l2) (l1.set (((p0.Durable.getD i2.toNat dGDirEntry).Inode).toNat) true)) else none) else none)) else none) else none)))) else none) else (bif (decide ((p0.Durable.getD i2.toNat dGDirEntry).Inode < 0)) then (some (p0.Inodes.length, false, l2, l1)) else (bif (decide ((p0.Durable.getD i2.toNat dGDirEntry).Inode ≥ (p0.Inodes.length : Int))) then (some (p0.Inodes.length, false, l2, l1)) else (bif (decide ((0 : Int) ≤ (p0.Durable.getD i2.toNat dGDirEntry).Inode) && decide ((p0.Durable.getD i2.toNat dGDirEntry).Inode < (p0.Inodes.length : Int))) then (bif Nat.blt (((p0.Durable.getD i2.toNat dGDirEntry).Inode).toNat) l1.length then (bif (l1.getD (((p0.Durable.getD i2.toNat dGDirEntry).Inode).toNat) false) then (some (p0.Inodes.length, false, l2, l1)) else (bif (decide ((0 : Int) ≤ (p0.Durable.getD i2.toNat dGDirEntry).Inode) && decide ((p0.Durable.getD i2.toNat dGDirEntry).Inode < (p0.Inodes.length : Int))) then (bif Nat.blt (((p0.Durable.getD i2.toNat dGDirEntry).Inode).toNat) l1.length then (disk_durable_l0 n p0 m i1 (IntKind.wrap .i64 (i2 + 1)) (putL ((p0.Durable.getD i2.toNat dGDirEntry).Name) ((p0.Durable.getD i2.toNat dGDirEntry).Inode) l2) (l1.set (((p0.Durable.getD i2.toNat dGDirEntry).Inode).toNat) true)) else none) else none)) else none) else none)))))) else none) else (disk_durable_s1 n p0 l1 l2)
def disk_durable (n : Nat) (p0 : GDisk) : Option (Nat × Bool × (List (ByteArray × Int)) × (List Bool)) := match n with
  | 0 => none
  | n + 1 => bif (decide (0 ≤ (p0.Inodes.length : Int)) && decide ((p0.Inodes.length : Int) * 1 ≤ 140737488355328) && decide ((p0.Inodes.length : Int) ≤ 9223372036854775807)) then (disk_durable_l0 n p0 n (p0.Durable.length : Int) 0 [] (List.replicate p0.Inodes.length false)) else none
inductive disk_operationOf_R where
  | c0
  | c1
  | c2
  | c3
def disk_operationOf (n : Nat) (p0 : Int) : Option disk_operationOf_R := match n with
  | 0 => none
  | n + 1 => bif (p0 == 1) then (some disk_operationOf_R.c0) else (bif (p0 == 2) then (some disk_operationOf_R.c1) else (bif (p0 == 3) then (some disk_operationOf_R.c2) else (some disk_operationOf_R.c3)))
def disk_mayCreate (n : Nat) (p0 : Nat) (p1 : GDirOp) (p2 : List (ByteArray × Int)) (p3 : List Bool) : Option (Bool × (List (ByteArray × Int)) × (List Bool)) := match n with
  | 0 => none
  | n + 1 => (disk_isName n p1.Name).bind fun r1 => (bif r1 then (bif (!(lk p1.Name p2).isSome) then (bif (sEq p1.To bE) then (bif (decide (p1.Inode ≥ 0)) then (bif (decide (p1.Inode < (p0 : Int))) then (bif (decide ((0 : Int) ≤ p1.Inode) && decide (p1.Inode < (p0 : Int))) then (bif Nat.blt p1.Inode.toNat p3.length then (some ((!(p3.getD p1.Inode.toNat false)), p2, p3)) else none) else none) else (some (false, p2, p3))) else (some (false, p2, p3))) else (some (false, p2, p3))) else (some (false, p2, p3))) else (some (false, p2, p3)))
def disk_create (n : Nat) (p0 : Nat) (p1 : GDirOp) (p2 : List (ByteArray × Int)) (p3 : List Bool) : Option ((List (ByteArray × Int)) × (List Bool)) := match n with
  | 0 => none
  | n + 1 => bif (decide ((0 : Int) ≤ p1.Inode) && decide (p1.Inode < (p0 : Int))) then (bif Nat.blt p1.Inode.toNat p3.length then (some ((putL p1.Name p1.Inode p2), (p3.set p1.Inode.toNat true))) else none) else none
def disk_mayRename (n : Nat) (p0 : Nat) (p1 : GDirOp) (p2 : List (ByteArray × Int)) (p3 : List Bool) : Option (Bool × (List (ByteArray × Int)) × (List Bool)) := match n with
  | 0 => none
  | n + 1 => bif (lk p1.Name p2).isSome then ((disk_isName n p1.To).bind fun r1 => (bif r1 then (bif (sNe p1.To p1.Name) then (some ((p1.Inode == 0), p2, p3)) else (some (false, p2, p3))) else (some (false, p2, p3)))) else (some (false, p2, p3))
def disk_rename_s0 (n : Nat) (p0 : Nat) (p1 : GDirOp) (p2 : List (ByteArray × Int)) (l1 : List Bool) : Option ((List (ByteArray × Int)) × (List Bool)) := some ((delL p1.Name (putL p1.To ((lk p1.Name p2).getD 0) p2)), l1)
def disk_rename (n : Nat) (p0 : Nat) (p1 : GDirOp) (p2 : List (ByteArray × Int)) (p3 : List Bool) : Option ((List (ByteArray × Int)) × (List Bool)) := match n with
  | 0 => none
  | n + 1 => bif (lk p1.To p2).isSome then (bif (decide ((0 : Int) ≤ ((lk p1.To p2).getD 0)) && decide (((lk p1.To p2).getD 0) < (p0 : Int))) then (bif Nat.blt (((lk p1.To p2).getD 0).toNat) p3.length then (disk_rename_s0 n p0 p1 p2 (p3.set (((lk p1.To p2).getD 0).toNat) false)) else none) else none) else (disk_rename_s0 n p0 p1 p2 p3)
def disk_mayRemove (n : Nat) (p0 : Nat) (p1 : GDirOp) (p2 : List (ByteArray × Int)) (p3 : List Bool) : Option (Bool × (List (ByteArray × Int)) × (List Bool)) := match n with
  | 0 => none
  | n + 1 => bif (lk p1.Name p2).isSome then (bif (sEq p1.To bE) then (some ((p1.Inode == 0), p2, p3)) else (some (false, p2, p3))) else (some (false, p2, p3))
def disk_remove (n : Nat) (p0 : Nat) (p1 : GDirOp) (p2 : List (ByteArray × Int)) (p3 : List Bool) : Option ((List (ByteArray × Int)) × (List Bool)) := match n with
  | 0 => none
  | n + 1 => bif (decide ((0 : Int) ≤ ((lk p1.Name p2).getD 0)) && decide (((lk p1.Name p2).getD 0) < (p0 : Int))) then (bif Nat.blt (((lk p1.Name p2).getD 0).toNat) p3.length then (some ((delL p1.Name p2), (p3.set (((lk p1.Name p2).getD 0).toNat) false))) else none) else none
inductive disk_current_R where
  | c0 (a0 : List Bool)
  | c1 (a0 : List Bool) (a1 : List (ByteArray × Int)) (a2 : List Bool)
  | c2 (a0 : Nat) (a1 : List (ByteArray × Int)) (a2 : List Bool)
def disk_current_s3 (n : Nat) (r1 : Nat × Bool × (List (ByteArray × Int)) × (List Bool)) (l3 : List (ByteArray × Int)) (l4 : List Bool) : Option disk_current_R := some (disk_current_R.c2 r1.1 l3 l4)
def disk_current_l2 (n : Nat) (r1 : Nat × Bool × (List (ByteArray × Int)) × (List Bool)) (p0 : GDisk) : Nat → Int → Int → (List (ByteArray × Int)) → (List Bool) → Option disk_current_R
  | 0, _, _, _, _ => none
  | m + 1, i2, i4, l1, l2 => bif (decide (i4 < i2)) then (bif (decide ((0 : Int) ≤ i4) && decide (i4 < (p0.Pending.length : Int))) then ((disk_operationOf n ((p0.Pending.getD i4.toNat dGDirOp).Kind)).bind fun r2 => (match r2 with | .c0 => (disk_mayCreate n r1.1 (p0.Pending.getD i4.toNat dGDirOp) l1 l2).bind fun r3 => (bif (!r3.1) then (some (disk_current_R.c1 [] r3.2.1 r3.2.2)) else ((disk_create n r1.1 (p0.Pending.getD i4.toNat dGDirOp) r3.2.1 r3.2.2).bind fun r4 => (disk_current_l2 n r1 p0 m i2 (IntKind.wrap .i64 (i4 + 1)) r4.1 r4.2))) | .c1 => (disk_mayRename n r1.1 (p0.Pending.getD i4.toNat dGDirOp) l1 l2).bind fun r5 => (bif (!r5.1) then (some (disk_current_R.c1 [] r5.2.1 r5.2.2)) else ((disk_rename n r1.1 (p0.Pending.getD i4.toNat dGDirOp) r5.2.1 r5.2.2).bind fun r6 => (disk_current_l2 n r1 p0 m i2 (IntKind.wrap .i64 (i4 + 1)) r6.1 r6.2))) | .c2 => (disk_mayRemove n r1.1 (p0.Pending.getD i4.toNat dGDirOp) l1 l2).bind fun r7 => (bif (!r7.1) then (some (disk_current_R.c1 [] r7.2.1 r7.2.2)) else ((disk_remove n r1.1 (p0.Pending.getD i4.toNat dGDirOp) r7.2.1 r7.2.2).bind fun r8 => (disk_current_l2 n r1 p0 m i2 (IntKind.wrap .i64 (i4 + 1)) r8.1 r8.2))) | .c3 => some (disk_current_R.c1 [] l1 l2))) else none) else (disk_current_s3 n r1 l1 l2)
def disk_current_s1 (n : Nat) (p0 : GDisk) : Option disk_current_R := (disk_durable n p0).bind fun r1 => (bif (!r1.2.1) then (some (disk_current_R.c1 [] r1.2.2.1 r1.2.2.2)) else (disk_current_l2 n r1 p0 n (p0.Pending.length : Int) 0 r1.2.2.1 r1.2.2.2))
def disk_current_l0 (n : Nat) (p0 : GDisk) : Nat → Int → Int → Option disk_current_R
  | 0, _, _ => none
  | m + 1, i1, i3 => bif (decide (i3 < i1)) then (bif (decide ((0 : Int) ≤ i3) && decide (i3 < (p0.Inodes.length : Int))) then (bif (decide ((((p0.Inodes.getD i3.toNat dGInode).Data).size : Int) > 1048576)) then (some (disk_current_R.c0 [])) else (bif (decide ((p0.Inodes.getD i3.toNat dGInode).Synced < 0)) then (some (disk_current_R.c0 [])) else (bif (decide ((p0.Inodes.getD i3.toNat dGInode).Synced > (((p0.Inodes.getD i3.toNat dGInode).Data).size : Int))) then (some (disk_current_R.c0 [])) else (disk_current_l0 n p0 m i1 (IntKind.wrap .i64 (i3 + 1)))))) else none) else (disk_current_s1 n p0)
def disk_current (n : Nat) (p0 : GDisk) : Option disk_current_R := match n with
  | 0 => none
  | n + 1 => bif (decide ((p0.Inodes.length : Int) > 1000)) then (some (disk_current_R.c0 [])) else (bif (decide ((p0.Pending.length : Int) > 1000)) then (some (disk_current_R.c0 [])) else (bif (decide (p0.Left < (-1))) then (some (disk_current_R.c0 [])) else (disk_current_l0 n p0 n (p0.Inodes.length : Int) 0)))
def slices_Clip (n : Nat) (p0 : List GDirOp) : Option (List GDirOp) := match n with
  | 0 => none
  | n + 1 => bif (decide ((0 : Int) ≤ 0) && decide (0 ≤ (p0.length : Int)) && decide ((p0.length : Int) ≤ (p0.length : Int)) && decide ((p0.length : Int) = (p0.length : Int))) then (some p0) else none
def disk_pend (n : Nat) (p0 : GDisk) (p1 : GDirOp) : Option GDisk := match n with
  | 0 => none
  | n + 1 => (slices_Clip n p0.Pending).bind fun r1 => (bif (true && (decide ((r1.length + 1) * 48 ≤ 140737488355328) && decide (r1.length + 1 ≤ 9223372036854775807))) then (some (⟨p0.Inodes, p0.Durable, (r1 ++ [p1]), p0.Left⟩ : GDisk)) else none)
def slices_Clip_23 (n : Nat) (p0 : List GInode) : Option (List GInode) := match n with
  | 0 => none
  | n + 1 => bif (decide ((0 : Int) ≤ 0) && decide (0 ≤ (p0.length : Int)) && decide ((p0.length : Int) ≤ (p0.length : Int)) && decide ((p0.length : Int) = (p0.length : Int))) then (some p0) else none
def disk_perform_s0 (n : Nat) (p1 : GDisk) (i1 : Int) : Option (GDisk × Int) := some ((⟨p1.Inodes, p1.Durable, p1.Pending, i1⟩ : GDisk), 0)
def disk_perform (n : Nat) (p0 : GDisk) (p1 : GDisk) : Option (GDisk × Int) := match n with
  | 0 => none
  | n + 1 => bif (p0.Left == 0) then (some (p0, 19)) else (bif (decide (p0.Left > 0)) then (disk_perform_s0 n p1 (IntKind.wrap .i64 (p0.Left - 1))) else (disk_perform_s0 n p1 p1.Left))
def disk_Create (n : Nat) (p0 : GDisk) (p1 : ByteArray) : Option (GDisk × Int) := match n with
  | 0 => none
  | n + 1 => (disk_current n p0).bind fun r1 => (match r1 with | .c0 r2 => some ((⟨[], [], [], 0⟩ : GDisk), 1) | .c1 r3 r4 r5 => some ((⟨[], [], [], 0⟩ : GDisk), 1) | .c2 r6 r7 r8 => (disk_isName n p1).bind fun r9 => (bif (!r9) then (some ((⟨[], [], [], 0⟩ : GDisk), 5)) else (bif (lk p1 r7).isSome then (some ((⟨[], [], [], 0⟩ : GDisk), 6)) else (bif (decide ((p0.Inodes.length : Int) ≥ 1000)) then (some ((⟨[], [], [], 0⟩ : GDisk), 18)) else (bif (decide ((p0.Pending.length : Int) ≥ 1000)) then (some ((⟨[], [], [], 0⟩ : GDisk), 18)) else ((disk_pend n p0 (⟨1, p1, bE, (p0.Inodes.length : Int)⟩ : GDirOp)).bind fun r10 => ((slices_Clip_23 n p0.Inodes).bind fun r11 => (bif (true && (decide ((r11.length + 1) * 24 ≤ 140737488355328) && decide (r11.length + 1 ≤ 9223372036854775807))) then ((disk_perform n p0 (⟨(r11 ++ [(⟨bE, 0⟩ : GInode)]), r10.Durable, r10.Pending, r10.Left⟩ : GDisk)).bind fun r12 => (some (r12.1, r12.2))) else none))))))))
def disk_find (n : Nat) (p0 : GDisk) (p1 : ByteArray) : Option (Int × Int) := match n with
  | 0 => none
  | n + 1 => (disk_current n p0).bind fun r1 => (match r1 with | .c0 r2 => some (0, 1) | .c1 r3 r4 r5 => some (0, 1) | .c2 r6 r7 r8 => bif (!(lk p1 r7).isSome) then (some (0, 7)) else (some (((lk p1 r7).getD 0), 0)))
inductive slices_Clone_R where
  | c0 (a0 : Nat) (a1 : List GInode)
  | c1 (a0 : List GInode)
def slices_Clone (n : Nat) (p0 : List GInode) : Option slices_Clone_R := match n with
  | 0 => none
  | n + 1 => bif decide (0 < p0.length) then (bif (true && (decide ((0 + p0.length) * 24 ≤ 140737488355328) && decide (0 + p0.length ≤ 9223372036854775807))) then (bif decide (0 < p0.length) then (some (slices_Clone_R.c0 p0.length p0)) else (some (slices_Clone_R.c1 p0))) else none) else (some (slices_Clone_R.c1 []))
def disk_change (n : Nat) (p0 : GDisk) (p1 : Int) (p2 : GInode) : Option GDisk := match n with
  | 0 => none
  | n + 1 => (slices_Clone n p0.Inodes).bind fun r1 => (match r1 with | .c0 r2 r3 => bif (decide ((0 : Int) ≤ p1) && decide (p1 < (r2 : Int))) then (bif Nat.blt p1.toNat r3.length then (bif Nat.ble r2 (r3.set p1.toNat p2).length then (some (⟨((r3.set p1.toNat p2).take r2), p0.Durable, p0.Pending, p0.Left⟩ : GDisk)) else none) else none) else none | .c1 r5 => bif (decide ((0 : Int) ≤ p1) && decide (p1 < (r5.length : Int))) then (none) else none)
def disk_Append (n : Nat) (p0 : GDisk) (p1 : ByteArray) (p2 : ByteArray) : Option (GDisk × Int) := match n with
  | 0 => none
  | n + 1 => (disk_find n p0 p1).bind fun r1 => (bif (r1.2 != 0) then (some ((⟨[], [], [], 0⟩ : GDisk), r1.2)) else (bif (decide ((0 : Int) ≤ r1.1) && decide (r1.1 < (p0.Inodes.length : Int))) then (bif (decide ((p2.size : Int) > (IntKind.wrap .i64 (1048576 - (((p0.Inodes.getD r1.1.toNat dGInode).Data).size : Int))))) then (some ((⟨[], [], [], 0⟩ : GDisk), 18)) else (bif (decide (((p0.Inodes.getD r1.1.toNat dGInode).Data).size + p2.size ≤ 9223372036854775807)) then ((disk_change n p0 r1.1 (⟨((p0.Inodes.getD r1.1.toNat dGInode).Data ++ p2), (p0.Inodes.getD r1.1.toNat dGInode).Synced⟩ : GInode)).bind fun r2 => ((disk_perform n p0 r2).bind fun r3 => (some (r3.1, r3.2)))) else none)) else none))
def disk_Read (n : Nat) (p0 : GDisk) (p1 : ByteArray) : Option (ByteArray × Int) := match n with
  | 0 => none
  | n + 1 => (disk_find n p0 p1).bind fun r1 => (bif (r1.2 != 0) then (some (bE, r1.2)) else (bif (decide ((0 : Int) ≤ r1.1) && decide (r1.1 < (p0.Inodes.length : Int))) then (some ((p0.Inodes.getD r1.1.toNat dGInode).Data, 0)) else none))
def disk_Truncate (n : Nat) (p0 : GDisk) (p1 : ByteArray) (p2 : Int) : Option (GDisk × Int) := match n with
  | 0 => none
  | n + 1 => (disk_find n p0 p1).bind fun r1 => (bif (r1.2 != 0) then (some ((⟨[], [], [], 0⟩ : GDisk), r1.2)) else (bif (decide ((0 : Int) ≤ r1.1) && decide (r1.1 < (p0.Inodes.length : Int))) then (bif (decide (p2 < 0)) then (some ((⟨[], [], [], 0⟩ : GDisk), 2)) else (bif (decide (p2 > (((p0.Inodes.getD r1.1.toNat dGInode).Data).size : Int))) then (some ((⟨[], [], [], 0⟩ : GDisk), 2)) else (bif (decide ((0 : Int) ≤ 0) && decide (0 ≤ p2) && decide (p2 ≤ (((p0.Inodes.getD r1.1.toNat dGInode).Data).size : Int))) then ((disk_change n p0 r1.1 (⟨(ByteArray.extract ((p0.Inodes.getD r1.1.toNat dGInode).Data) 0 p2.toNat), (bif decide (p2 < (p0.Inodes.getD r1.1.toNat dGInode).Synced) then p2 else (p0.Inodes.getD r1.1.toNat dGInode).Synced)⟩ : GInode)).bind fun r2 => ((disk_perform n p0 r2).bind fun r3 => (some (r3.1, r3.2)))) else none))) else none))
def wal_Open_c1 (n : Nat) (p0 : GDisk) (p1 : ByteArray) (p2 : Int) : Option (GDisk × Int) := match n with
  | 0 => none
  | n + 1 => (disk_Truncate n p0 p1 p2).bind fun r1 => (some (r1.1, r1.2))
def disk_Sync (n : Nat) (p0 : GDisk) (p1 : ByteArray) : Option (GDisk × Int) := match n with
  | 0 => none
  | n + 1 => (disk_find n p0 p1).bind fun r1 => (bif (r1.2 != 0) then (some ((⟨[], [], [], 0⟩ : GDisk), r1.2)) else (bif (decide ((0 : Int) ≤ r1.1) && decide (r1.1 < (p0.Inodes.length : Int))) then ((disk_change n p0 r1.1 (⟨(p0.Inodes.getD r1.1.toNat dGInode).Data, (((p0.Inodes.getD r1.1.toNat dGInode).Data).size : Int)⟩ : GInode)).bind fun r2 => ((disk_perform n p0 r2).bind fun r3 => (some (r3.1, r3.2)))) else none))
def wal_Open_c2 (n : Nat) (p0 : GDisk) (p1 : ByteArray) : Option (GDisk × Int) := match n with
  | 0 => none
  | n + 1 => (disk_Sync n p0 p1).bind fun r1 => (some (r1.1, r1.2))
def wal_run (n : Nat) (p0 : GDisk) (p1 : ByteArray) (p2 : Int) (p3 : ByteArray) : Option (GDisk × Int) := match n with
  | m + 5 => (wal_Open_c1 (m + 4) p0 p1 p2).bind fun r1 => (bif (r1.2 != 0) then (some (r1.1, r1.2)) else ((wal_Open_c2 (m + 4) r1.1 p3).bind fun r2 => (bif (r2.2 != 0) then (some (r2.1, r2.2)) else (some (r2.1, 0)))))
  | _ => none
def wal_failed (n : Nat) (p0 : GDisk) (p1 : Int) : Option (GWal × Int) := match n with
  | 0 => none
  | n + 1 => bif (p1 == 19) then (some ((⟨p0, bE, 0, []⟩ : GWal), p1)) else (some ((⟨(⟨[], [], [], 0⟩ : GDisk), bE, 0, []⟩ : GWal), p1))
def wal_run_v1 (n : Nat) (p0 : GDisk) : Option (GDisk × Int) := match n with
  | m + 5 => some (p0, 0)
  | _ => none
def wal_Open (n : Nat) (p0 : GDisk) (p1 : ByteArray) : Option (GWal × Int) := match n with
  | 0 => none
  | n + 1 => (disk_Read n p0 p1).bind fun r1 => (bif (r1.2 != 0) then (some ((⟨(⟨[], [], [], 0⟩ : GDisk), bE, 0, []⟩ : GWal), r1.2)) else ((wal_Scan n r1.1).bind fun r2 => (bif (decide (r2.2 < (r1.1.size : Int))) then ((wal_run n p0 p1 r2.2 p1).bind fun r3 => (bif (r3.2 != 0) then ((wal_failed n r3.1 r3.2).bind fun r4 => (some (r4.1, r4.2))) else (some ((⟨r3.1, p1, r2.2, r2.1⟩ : GWal), 0)))) else ((wal_run_v1 n p0).bind fun r5 => (bif (r5.2 != 0) then ((wal_failed n r5.1 r5.2).bind fun r6 => (some (r6.1, r6.2))) else (some ((⟨r5.1, p1, r2.2, r2.1⟩ : GWal), 0)))))))
def slices_Equal_l0 (n : Nat) (p0 : List ByteArray) (p1 : List ByteArray) : Nat → Int → Int → Option Bool
  | 0, _, _ => none
  | m + 1, i1, i2 => bif (decide (i2 < i1)) then (bif (decide ((0 : Int) ≤ i2) && decide (i2 < (p0.length : Int))) then (bif (decide ((0 : Int) ≤ i2) && decide (i2 < (p1.length : Int))) then (bif (sNe (p0.getD i2.toNat bE) (p1.getD i2.toNat bE)) then (some false) else (slices_Equal_l0 n p0 p1 m i1 (IntKind.wrap .i64 (i2 + 1)))) else none) else none) else (some true)
def slices_Equal (n : Nat) (p0 : List ByteArray) (p1 : List ByteArray) : Option Bool := match n with
  | 0 => none
  | n + 1 => bif ((p0.length : Int) != (p1.length : Int)) then (some false) else (slices_Equal_l0 n p0 p1 n (p0.length : Int) 0)
def lookoutlaw23_awake (n : Nat) : Option Bool := match n with
  | 0 => none
  | n + 1 => (wal_Frame n (⟨#[97, 98, 99]⟩ : ByteArray)).bind fun r1 => (bif (decide (r1.size + 1 ≤ 9223372036854775807)) then ((wal_Scan n (r1 ++ (⟨#[5]⟩ : ByteArray))).bind fun r2 => ((disk_New n).bind fun r3 => ((disk_Create n (⟨[], [], [], r3⟩ : GDisk) (⟨#[119]⟩ : ByteArray)).bind fun r4 => (bif (decide (r1.size + 1 ≤ 9223372036854775807)) then ((disk_Append n r4.1 (⟨#[119]⟩ : ByteArray) (r1 ++ (⟨#[5]⟩ : ByteArray))).bind fun r5 => ((wal_Open n r5.1 (⟨#[119]⟩ : ByteArray)).bind fun r6 => ((disk_Read n r6.1.Disk (⟨#[119]⟩ : ByteArray)).bind fun r7 => (bif ((r1.size : Int) == 8) then (bif (decide ((0 : Int) ≤ 0) && decide ((0 : Int) ≤ 4) && decide ((4 : Int) ≤ (r1.size : Int))) then (bif (sEq (ByteArray.extract r1 0 4) (⟨#[3, 97, 98, 99]⟩ : ByteArray)) then (bif (r2.2 == 8) then ((slices_Equal n r2.1 [(⟨#[97, 98, 99]⟩ : ByteArray)]).bind fun r8 => (bif r8 then (bif (r4.2 == 0) then (bif (r5.2 == 0) then (bif (r6.2 == 0) then (bif (r7.2 == 0) then (bif (sEq r7.1 r1) then ((slices_Equal n r6.1.Records r2.1).bind fun r9 => (bif r9 then (some (r6.1.Size == 8)) else (some false))) else (some false)) else (some false)) else (some false)) else (some false)) else (some false)) else (some false))) else (some false)) else (some false)) else none) else (some false))))) else none)))) else none)
def lookoutlaw23_WalDamage_s1 (n : Nat) (k_l0 : Int → (List Int) → Int → Int → Int → Option Bool) (p0 : List ByteArray) (p2 : Int) (p3 : G23) (i1 : Int) (i2 : Int) (l3 : List Int) (i3 : Int) (s1 : ByteArray) (i6 : Int) : Option Bool := (wal_Frame n s1).bind fun r6 => (bif (decide ((l3.length + r6.size) * 1 ≤ 140737488355328) && decide (l3.length + r6.size ≤ 9223372036854775807)) then (k_l0 i1 (l3 ++ bytesL r6) i3 i2 (IntKind.wrap .i64 (i6 + 1))) else none)
def lookoutlaw23_WalDamage_s4 (n : Nat) (k_l3 : (List Int) → Int → Bool → G23 → Int → Option Bool) (p0 : List ByteArray) (p2 : Int) (i1 : Int) (x1 : G23) (l1 : List Int) (i10 : Int) (b1 : Bool) (i11 : Int) : Option Bool := k_l3 l1 i10 b1 x1 (IntKind.wrap .i64 (i11 + 1))
def lookoutlaw23_WalDamage_s5 (n : Nat) (p0 : List ByteArray) (i1 : Int) (l5 : List Int) (i8 : Int) (b2 : Bool) : Option Bool := (wal_Scan n (bytesOf l5)).bind fun r10 => (bif (!b2) then ((slices_Equal n r10.1 p0).bind fun r11 => (bif r11 then (bif (r10.2 == (l5.length : Int)) then ((lookoutlaw23_awake n).bind fun r12 => (some r12)) else (some false)) else (some false))) else (bif (decide ((0 : Int) ≤ 0) && decide (0 ≤ i1) && decide (i1 ≤ (p0.length : Int))) then ((slices_Equal n r10.1 (List.take i1.toNat p0)).bind fun r14 => (bif r14 then (bif (r10.2 == (IntKind.wrap .i64 (i8 - 1))) then ((lookoutlaw23_awake n).bind fun r15 => (some r15)) else (some false)) else (some false))) else none))
def lookoutlaw23_WalDamage_l3 (n : Nat) (p0 : List ByteArray) (p2 : Int) (i1 : Int) : Nat → (List Int) → Int → Bool → G23 → Int → Option Bool
  | 0, _, _, _, _, _ => none
  | m + 1, l5, i8, b2, x1, i9 => bif (decide (i9 < 4)) then (bif (decide (0 ≤ i9) && decide (i9 < ((4 : Nat) : Int)) && Nat.ble (i9.toNat * 1 + 1) 4) then (bif (decide ((0 : Int) ≤ i1) && decide (i1 < (p0.length : Int))) then (bif (((p0.getD i1.toNat bE).size : Int) != 0) then (bif (decide ((0 : Int) ≤ i1) && decide (i1 < (p0.length : Int))) then (bif (decide ((IntKind.wrap .i64 ((Int.tmod (IntKind.wrap .i64 p2) ((p0.getD i1.toNat bE).size : Int)) + i9)) < ((p0.getD i1.toNat bE).size : Int))) then (bif (decide ((IntKind.wrap .i64 (i8 + (IntKind.wrap .i64 ((Int.tmod (IntKind.wrap .i64 p2) ((p0.getD i1.toNat bE).size : Int)) + i9)))) < (l5.length : Int))) then (bif (decide ((0 : Int) ≤ (IntKind.wrap .i64 (i8 + (IntKind.wrap .i64 ((Int.tmod (IntKind.wrap .i64 p2) ((p0.getD i1.toNat bE).size : Int)) + i9))))) && decide ((IntKind.wrap .i64 (i8 + (IntKind.wrap .i64 ((Int.tmod (IntKind.wrap .i64 p2) ((p0.getD i1.toNat bE).size : Int)) + i9)))) < (l5.length : Int))) then (bif Nat.blt ((IntKind.wrap .i64 (i8 + (IntKind.wrap .i64 ((Int.tmod (IntKind.wrap .i64 p2) ((p0.getD i1.toNat bE).size : Int)) + i9)))).toNat) l5.length then (bif (decide ((0 : Int) ≤ (IntKind.wrap .i64 (i8 + (IntKind.wrap .i64 ((Int.tmod (IntKind.wrap .i64 p2) ((p0.getD i1.toNat bE).size : Int)) + i9))))) && decide ((IntKind.wrap .i64 (i8 + (IntKind.wrap .i64 ((Int.tmod (IntKind.wrap .i64 p2) ((p0.getD i1.toNat bE).size : Int)) + i9)))) < (l5.length : Int))) then (bif Nat.blt ((IntKind.wrap .i64 (i8 + (IntKind.wrap .i64 ((Int.tmod (IntKind.wrap .i64 p2) ((p0.getD i1.toNat bE).size : Int)) + i9)))).toNat) l5.length then (bif b2 then (lookoutlaw23_WalDamage_s4 n (fun a0 a1 a2 a3 a4 => lookoutlaw23_WalDamage_l3 n p0 p2 i1 m a0 a1 a2 a3 a4) p0 p2 i1 x1 (l5.set ((IntKind.wrap .i64 (i8 + (IntKind.wrap .i64 ((Int.tmod (IntKind.wrap .i64 p2) ((p0.getD i1.toNat bE).size : Int)) + i9)))).toNat) (iXor .u8 (l5.getD ((IntKind.wrap .i64 (i8 + (IntKind.wrap .i64 ((Int.tmod (IntKind.wrap .i64 p2) ((p0.getD i1.toNat bE).size : Int)) + i9)))).toNat) 0) (([x1.E0, x1.E1, x1.E2, x1.E3] : List Int).getD i9.toNat 0))) i8 true i9) else (lookoutlaw23_WalDamage_s4 n (fun a0 a1 a2 a3 a4 => lookoutlaw23_WalDamage_l3 n p0 p2 i1 m a0 a1 a2 a3 a4) p0 p2 i1 x1 (l5.set ((IntKind.wrap .i64 (i8 + (IntKind.wrap .i64 ((Int.tmod (IntKind.wrap .i64 p2) ((p0.getD i1.toNat bE).size : Int)) + i9)))).toNat) (iXor .u8 (l5.getD ((IntKind.wrap .i64 (i8 + (IntKind.wrap .i64 ((Int.tmod (IntKind.wrap .i64 p2) ((p0.getD i1.toNat bE).size : Int)) + i9)))).toNat) 0) (([x1.E0, x1.E1, x1.E2, x1.E3] : List Int).getD i9.toNat 0))) i8 ((([x1.E0, x1.E1, x1.E2, x1.E3] : List Int).getD i9.toNat 0) != 0) i9)) else none) else none) else none) else none) else (lookoutlaw23_WalDamage_s4 n (fun a0 a1 a2 a3 a4 => lookoutlaw23_WalDamage_l3 n p0 p2 i1 m a0 a1 a2 a3 a4) p0 p2 i1 x1 l5 i8 b2 i9)) else (lookoutlaw23_WalDamage_s4 n (fun a0 a1 a2 a3 a4 => lookoutlaw23_WalDamage_l3 n p0 p2 i1 m a0 a1 a2 a3 a4) p0 p2 i1 x1 l5 i8 b2 i9)) else none) else none) else none) else none) else (lookoutlaw23_WalDamage_s5 n p0 i1 l5 i8 b2)
def lookoutlaw23_WalDamage_s2 (n : Nat) (p0 : List ByteArray) (p2 : Int) (p3 : G23) (i1 : Int) (l4 : List Int) (i7 : Int) : Option Bool := lookoutlaw23_WalDamage_l3 n p0 p2 i1 n l4 i7 false p3 0
def lookoutlaw23_WalDamage_l0 (n : Nat) (p0 : List ByteArray) (p2 : Int) (p3 : G23) : Nat → Int → (List Int) → Int → Int → Int → Option Bool
  | 0, _, _, _, _, _ => none
  | m + 1, i1, l2, i4, i2, i5 => bif (decide (i5 < i2)) then (bif (decide ((0 : Int) ≤ i5) && decide (i5 < (p0.length : Int))) then (bif (i5 == i1) then (lookoutlaw23_WalDamage_s1 n (fun a0 a1 a2 a3 a4 => lookoutlaw23_WalDamage_l0 n p0 p2 p3 m a0 a1 a2 a3 a4) p0 p2 p3 i1 i2 l2 (IntKind.wrap .i64 ((l2.length : Int) + 1)) (p0.getD i5.toNat bE) i5) else (lookoutlaw23_WalDamage_s1 n (fun a0 a1 a2 a3 a4 => lookoutlaw23_WalDamage_l0 n p0 p2 p3 m a0 a1 a2 a3 a4) p0 p2 p3 i1 i2 l2 i4 (p0.getD i5.toNat bE) i5)) else none) else (lookoutlaw23_WalDamage_s2 n p0 p2 p3 i1 l2 i4)
def lookoutlaw23_WalDamage (n : Nat) (p0 : List ByteArray) (p1 : Int) (p2 : Int) (p3 : G23) : Option Bool := match n with
  | 0 => none
  | n + 1 => (lookoutlaw23_Fine n [(⟨0, p0, 0, []⟩ : Glookoutlaw23_Act)]).bind fun r1 => (bif (!r1) then ((lookoutlaw23_awake n).bind fun r2 => (some r2)) else (bif ((p0.length : Int) == 0) then ((lookoutlaw23_awake n).bind fun r3 => (some r3)) else (bif ((p0.length : Int) != 0) then (bif (decide ((0 : Int) ≤ (Int.tmod (IntKind.wrap .i64 p1) (p0.length : Int))) && decide ((Int.tmod (IntKind.wrap .i64 p1) (p0.length : Int)) < (p0.length : Int))) then (bif (((p0.getD ((Int.tmod (IntKind.wrap .i64 p1) (p0.length : Int)).toNat) bE).size : Int) == 0) then ((lookoutlaw23_awake n).bind fun r4 => (some r4)) else (bif (decide ((0 : Int) ≤ (Int.tmod (IntKind.wrap .i64 p1) (p0.length : Int))) && decide ((Int.tmod (IntKind.wrap .i64 p1) (p0.length : Int)) < (p0.length : Int))) then (bif (decide (((p0.getD ((Int.tmod (IntKind.wrap .i64 p1) (p0.length : Int)).toNat) bE).size : Int) > 100)) then ((lookoutlaw23_awake n).bind fun r5 => (some r5)) else (lookoutlaw23_WalDamage_l0 n p0 p2 p3 n (Int.tmod (IntKind.wrap .i64 p1) (p0.length : Int)) [] 0 (p0.length : Int) 0)) else none)) else none) else none)))
end Go.Proofs.Ytkkinfbipndfdaa
