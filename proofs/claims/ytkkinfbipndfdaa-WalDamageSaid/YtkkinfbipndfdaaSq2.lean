/- Plain laws of the log, 2: numbers of variable length. -/
import Derived.Test.YtkkinfbipndfdaaSq1
set_option linter.unusedVariables false
set_option linter.unusedSimpArgs false
set_option maxRecDepth 100000
namespace Go.Proofs.Ytkkinfbipndfdaa
open Go Go.AM

theorem ofNat_toNat64 (x : Nat) (h : x < 18446744073709551616) : (BitVec.ofInt 64 (x : Int)).toNat = x := by
  rw [BitVec.ofInt_natCast, BitVec.toNat_ofNat]; exact Nat.mod_eq_of_lt h
theorem ofNat_toNat8 (x : Nat) (h : x < 256) : (BitVec.ofInt 8 (x : Int)).toNat = x := by
  rw [BitVec.ofInt_natCast, BitVec.toNat_ofNat]; exact Nat.mod_eq_of_lt h
theorem wr64 (x : Nat) (h : x < 18446744073709551616) : IntKind.wrap .u64 (x : Int) = x := by
  simp only [IntKind.wrap, IntKind.bits, IntKind.signed, Bool.false_and]
  simp; omega
theorem wr8 (x : Nat) (h : x < 256) : IntKind.wrap .u8 (x : Int) = x := by
  simp only [IntKind.wrap, IntKind.bits, IntKind.signed, Bool.false_and]
  simp; omega
theorem and64 (x : Nat) (h : x < 18446744073709551616) : iAnd .u64 (x : Int) 127 = ((x % 128 : Nat) : Int) := by
  show IntKind.wrap .u64 (((BitVec.ofInt 64 (x : Int) &&& BitVec.ofInt 64 ((127 : Nat) : Int)).toNat : Nat) : Int) = _
  rw [BitVec.toNat_and, ofNat_toNat64 x h, ofNat_toNat64 127 (by omega), show (127 : Nat) = 2 ^ 7 - 1 by rfl, Nat.and_two_pow_sub_one_eq_mod, wr64 _ (by omega)]
theorem and8 (x : Nat) (h : x < 256) : iAnd .u8 (x : Int) 127 = ((x % 128 : Nat) : Int) := by
  show IntKind.wrap .u8 (((BitVec.ofInt 8 (x : Int) &&& BitVec.ofInt 8 ((127 : Nat) : Int)).toNat : Nat) : Int) = _
  rw [BitVec.toNat_and, ofNat_toNat8 x h, ofNat_toNat8 127 (by omega), show (127 : Nat) = 2 ^ 7 - 1 by rfl, Nat.and_two_pow_sub_one_eq_mod, wr8 _ (by omega)]
theorem or8 (x : Nat) (h : x < 128) : iOr .u8 (x : Int) 128 = ((x + 128 : Nat) : Int) := by
  show IntKind.wrap .u8 (((BitVec.ofInt 8 (x : Int) ||| BitVec.ofInt 8 ((128 : Nat) : Int)).toNat : Nat) : Int) = _
  have := Nat.two_pow_add_eq_or_of_lt (i := 7) (b := x) (by omega) 1
  rw [BitVec.toNat_or, ofNat_toNat8 x (by omega), ofNat_toNat8 128 (by omega), Nat.or_comm, show (128 : Nat) = 2 ^ 7 * 1 by rfl, ← this, wr8 _ (by omega)]
  omega
theorem or64 (x y i : Nat) (h : x < 2 ^ i) (h2 : x + y * 2 ^ i < 18446744073709551616) : iOr .u64 (x : Int) ((y * 2 ^ i : Nat) : Int) = ((x + y * 2 ^ i : Nat) : Int) := by
  show IntKind.wrap .u64 (((BitVec.ofInt 64 (x : Int) ||| BitVec.ofInt 64 ((y * 2 ^ i : Nat) : Int)).toNat : Nat) : Int) = _
  have := Nat.two_pow_add_eq_or_of_lt (i := i) (b := x) h y
  rw [BitVec.toNat_or, ofNat_toNat64 x (by omega), ofNat_toNat64 _ (by omega), Nat.or_comm, Nat.mul_comm y, ← this, Nat.mul_comm _ y, wr64 _ (by omega)]
  omega
theorem shl64 (y i : Nat) (hi : i ≤ 64) (h2 : y * 2 ^ i < 18446744073709551616) : iShl .u64 (y : Int) (i : Int) = ((y * 2 ^ i : Nat) : Int) := by
  show IntKind.wrap .u64 ((y : Int) * 2 ^ (min (i : Int).toNat 64)) = _
  rw [toNat_c, show min i 64 = i by omega, show ((y : Int) * 2 ^ i) = ((y * 2 ^ i : Nat) : Int) by rw [Int.natCast_mul, Int.natCast_pow]; rfl, wr64 _ h2]
theorem shl64i (y i : Nat) (hi : i ≤ 64) (h2 : y * 2 ^ i < 9223372036854775808) : iShl .i64 (y : Int) (i : Int) = ((y * 2 ^ i : Nat) : Int) := by
  show IntKind.wrap .i64 ((y : Int) * 2 ^ (min (i : Int).toNat 64)) = _
  rw [toNat_c, show min i 64 = i by omega, show ((y : Int) * 2 ^ i) = ((y * 2 ^ i : Nat) : Int) by rw [Int.natCast_mul, Int.natCast_pow]; rfl, wr _ (by omega) (by omega)]
theorem shr64 (x : Nat) (h : x < 18446744073709551616) : iShr .u64 (x : Int) 7 = ((x / 128 : Nat) : Int) := by
  show (x : Int).fdiv (2 ^ (min (7 : Int).toNat 64)) = _
  rw [show min (7 : Int).toNat 64 = 7 by rfl]
  rw [Int.fdiv_eq_ediv_of_nonneg _ (by omega), show (x : Int) / 2 ^ 7 = ((x / 128 : Nat) : Int) by omega]

/-! ### Reading -/
/-- A number at the beginning of bytes; behind it, its length; or an error. -/
def vget : Nat → Nat → List UInt8 → Int × Int × Int
  | _, _, [] => (0, 0, 11)
  | i, a, b :: l => if 128 ≤ b.toNat then (if i = 8 then (0, 0, 12) else vget (i + 1) (a + b.toNat % 128 * 2 ^ (7 * i)) l)
      else if 0 < i ∧ b.toNat = 0 then (0, 0, 12) else (((a + b.toNat * 2 ^ (7 * i) : Nat) : Int), ((i + 1 : Nat) : Int), 0)
def vread (l : List UInt8) : Int × Int × Int :=
  let r := vget 0 0 l
  if r.2.2 = 0 then (if r.1 > 1152921504606846976 then (0, 0, 12) else r) else (0, 0, r.2.2)
theorem pow_le (i : Nat) (h : i ≤ 8) : 2 ^ (7 * i) ≤ 72057594037927936 := Nat.le_trans (Nat.pow_le_pow_right (by omega) (show 7 * i ≤ 56 by omega)) (by decide)
theorem pow_next (i : Nat) : 2 ^ (7 * (i + 1)) = 128 * 2 ^ (7 * i) := by
  rw [show 7 * (i + 1) = 7 * i + 7 by omega, Nat.pow_add]; omega
theorem step_lt {i a b : Nat} (ha : a < 2 ^ (7 * i)) (hb : b < 128) : a + b * 2 ^ (7 * i) < 2 ^ (7 * (i + 1)) := by
  rw [pow_next]
  have : b * 2 ^ (7 * i) ≤ 127 * 2 ^ (7 * i) := Nat.mul_le_mul_right _ (by omega)
  omega
theorem step_big {i a b : Nat} (hi : i ≤ 8) (ha : a < 2 ^ (7 * i)) (hb : b < 128) : a + b * 2 ^ (7 * i) < 9223372036854775808 := by
  have h1 := step_lt ha hb
  rw [pow_next] at h1
  have := pow_le i hi
  omega
theorem read_r0 (n i b a : Nat) (p2 p3 p4 : Int) (hi : i ≤ 8) (hb : b < 256) (ha : a < 2 ^ (7 * i)) : varint_read_r0 (n + 1) i b p2 p3 p4 a =
    some (if 128 ≤ b then (if i = 8 then .c0 0 0 12 a else .c1 p2 p3 p4 ((a + b % 128 * 2 ^ (7 * i) : Nat) : Int))
      else if 0 < i ∧ b = 0 then .c0 0 0 12 a else .c0 ((a + b * 2 ^ (7 * i) : Nat) : Int) ((i + 1 : Nat) : Int) 0 ((a + b * 2 ^ (7 * i) : Nat) : Int)) := by
  have hs := step_big hi ha (show b % 128 < 128 by omega)
  have hx : iOr .u64 (a : Int) (iShl .u64 (IntKind.wrap .u64 (iAnd .u8 (b : Int) 127)) (IntKind.wrap .i64 (7 * (i : Int)))) = ((a + b % 128 * 2 ^ (7 * i) : Nat) : Int) := by
    rw [and8 b hb, wr64 _ (by omega), wr _ (by omega) (by omega), show 7 * (i : Int) = ((7 * i : Nat) : Int) by omega, shl64 _ _ (by omega) (by omega), or64 _ _ _ ha (by omega)]
  have hw : IntKind.wrap .i64 (7 * (i : Int)) = ((7 * i : Nat) : Int) := by rw [wr _ (by omega) (by omega)]; omega
  simp only [varint_read_r0]
  rw [hx, hw, wr1 i (by omega), show decide ((0 : Int) ≤ ((7 * i : Nat) : Int)) = true from decide_eq_true (by omega)]
  simp only [cond_true]
  by_cases h1 : 128 ≤ b
  · rw [if_pos h1, show decide ((b : Int) ≥ 128) = true from decide_eq_true (by omega), show decide ((b : Int) < 128) = false from decide_eq_false (by omega), show ((b : Int) == 0) = false from by rw [beq_eq_false_iff_ne]; omega]
    simp only [cond_true, cond_false]
    by_cases h2 : i = 8
    · rw [if_pos h2, show ((i : Int) == 8) = true from by rw [beq_iff_eq]; omega]; rfl
    · rw [if_neg h2, show ((i : Int) == 8) = false from by rw [beq_eq_false_iff_ne]; omega]; rfl
  · rw [if_neg h1, show decide ((b : Int) ≥ 128) = false from decide_eq_false (by omega), show decide ((b : Int) < 128) = true from decide_eq_true (by omega), show b % 128 = b by omega]
    simp only [cond_true, cond_false]
    by_cases h2 : b = 0
    · rw [show ((b : Int) == 0) = true from by rw [beq_iff_eq]; omega]
      by_cases h3 : 0 < i
      · rw [if_pos ⟨h3, h2⟩, show decide ((i : Int) > 0) = true from decide_eq_true (by omega)]; rfl
      · rw [if_neg (fun h => h3 h.1), show decide ((i : Int) > 0) = false from decide_eq_false (by omega)]; rfl
    · rw [if_neg (fun h => h2 h.2), show ((b : Int) == 0) = false from by rw [beq_eq_false_iff_ne]; omega]; rfl
/-- What a round's end says. -/
def vend : varint_firstBytes_c1_R → Option (Int × Int × Int)
  | .c0 _ _ _ _ _ => some (0, 0, 11)
  | .c1 a b c _ _ => some (a, b, c)
theorem drop_ky' (s : ByteArray) (i : Nat) (h : i < s.size) : ∃ b : UInt8, bt s i = (b.toNat : Int) ∧ (ky s).drop i = b :: (ky s).drop (i + 1) :=
  ⟨_, bt_get s i h, drop_ky s i h⟩
theorem first_l0 (n : Nat) (s : ByteArray) (hs : s.size < 1000000000) : ∀ (k i m a : Nat), i + k = 9 → k < m → a < 2 ^ (7 * i) →
    ∃ r, varint_firstBytes_c1_l0 (n + 1) s m (i : Int) 0 0 0 (a : Int) = some r ∧ (i ≤ 8 → vend r = some (vget i a ((ky s).drop i)))
  | _, i, 0, a, h, hk, ha => by omega
  | k, i, m + 1, a, h, hk, ha => by
    simp only [varint_firstBytes_c1_l0]
    by_cases hi : i < s.size
    · rw [dec_in i s.size hi, show decide ((i : Int) < (s.size : Int)) = true from decide_eq_true (by omega), toNat_c]
      simp only [cond_true]
      by_cases h9 : i < 9
      · obtain ⟨b, e1, e2⟩ := drop_ky' s i hi
        have hb := b.toNat_lt
        rw [e1, show decide ((i : Int) < 9) = true from decide_eq_true (by omega), read_r0 n i b.toNat a 0 0 0 (by omega) (by omega) ha, e2, wr1 i (by omega)]
        simp only [cond_true, Option.bind_some]
        by_cases h1 : 128 ≤ b.toNat
        · rw [if_pos h1]
          by_cases h2 : i = 8
          · rw [if_pos h2]
            refine ⟨_, rfl, fun _ => ?_⟩
            simp only [vget]
            rw [if_pos h1, if_pos h2]; rfl
          · rw [if_neg h2]
            simp only [show decide ((b.toNat : Int) < 128) = false from decide_eq_false (by omega), cond_false]
            have ha' := step_lt ha (show b.toNat % 128 < 128 by omega)
            obtain ⟨k', rfl⟩ : ∃ k', k = k' + 1 := ⟨k - 1, by omega⟩
            obtain ⟨r, g1, g2⟩ := first_l0 n s hs k' (i + 1) m _ (by omega) (by omega) ha'
            refine ⟨r, g1, fun _ => ?_⟩
            rw [g2 (by omega)]
            conv => rhs; simp only [vget]
            rw [if_pos h1, if_neg h2]
        · rw [if_neg h1]
          by_cases h2 : 0 < i ∧ b.toNat = 0
          · rw [if_pos h2]
            refine ⟨_, rfl, fun _ => ?_⟩
            simp only [vget]
            rw [if_neg h1, if_pos h2]; rfl
          · rw [if_neg h2]
            refine ⟨_, rfl, fun _ => ?_⟩
            simp only [vget]
            rw [if_neg h1, if_neg h2]; rfl
      · rw [show decide ((i : Int) < 9) = false from decide_eq_false (by omega)]
        exact ⟨_, rfl, fun h => by omega⟩
    · rw [show decide ((i : Int) < (s.size : Int)) = false from decide_eq_false (by omega)]
      refine ⟨_, rfl, fun _ => ?_⟩
      rw [List.drop_eq_nil_of_le (by rw [ky_len]; omega)]; rfl
theorem read_eq (n : Nat) (s : ByteArray) (hs : s.size < 1000000000) (hn : 20 ≤ n) : varint_read n s = some (vget 0 0 (ky s)) := by
  obtain ⟨m, rfl⟩ : ∃ m, n = m + 4 := ⟨n - 4, by omega⟩
  obtain ⟨r, g1, g2⟩ := first_l0 (m + 1) s hs 9 0 (m + 2) 0 rfl (by omega) (by decide)
  have g3 := g2 (by omega)
  rw [List.drop_zero] at g3
  simp only [varint_read, varint_firstBytes, varint_firstBytes_c1, Option.bind_some]
  have g4 : varint_firstBytes_c1_l0 (m + 2) s (m + 2) 0 0 0 0 0 = some r := g1
  rw [g4]
  cases r with
  | c0 => simpa [vend, varint_read_s0] using g3
  | c1 => simpa [vend] using g3
theorem vget_bound : ∀ (l : List UInt8) (i a : Nat), i ≤ 8 → a < 2 ^ (7 * i) → 0 ≤ (vget i a l).1 ∧ (vget i a l).1 < 9223372036854775808 ∧ ((vget i a l).2.2 = 0 → (i : Int) < (vget i a l).2.1 ∧ (vget i a l).2.1 ≤ 9 ∧ (vget i a l).2.1 ≤ (i : Int) + l.length)
  | [], i, a, hi, ha => ⟨by simp [vget], by simp [vget], by simp [vget]⟩
  | b :: l, i, a, hi, ha => by
    simp only [vget]
    by_cases h1 : 128 ≤ b.toNat
    · rw [if_pos h1]
      by_cases h2 : i = 8
      · rw [if_pos h2]; exact ⟨by simp, by simp, by simp⟩
      · rw [if_neg h2]
        obtain ⟨g1, g2, g3⟩ := vget_bound l (i + 1) _ (by omega) (step_lt ha (show b.toNat % 128 < 128 by omega))
        refine ⟨g1, g2, fun h => ?_⟩
        obtain ⟨q1, q2, q3⟩ := g3 h
        rw [List.length_cons]
        omega
    · rw [if_neg h1]
      by_cases h2 : 0 < i ∧ b.toNat = 0
      · rw [if_pos h2]; exact ⟨by simp, by simp, by simp⟩
      · rw [if_neg h2]
        have := step_big hi ha (show b.toNat < 128 by omega)
        refine ⟨Int.natCast_nonneg _, ?_, fun _ => ?_⟩
        · show ((_ : Nat) : Int) < _
          omega
        · rw [List.length_cons]; show (i : Int) < ((i + 1 : Nat) : Int) ∧ ((i + 1 : Nat) : Int) ≤ 9 ∧ ((i + 1 : Nat) : Int) ≤ _
          omega
theorem Read_eq (n : Nat) (s : ByteArray) (hs : s.size < 1000000000) (hn : 30 ≤ n) : varint_Read n s = some (vread (ky s)) := by
  obtain ⟨m, rfl⟩ : ∃ m, n = m + 1 := ⟨n - 1, by omega⟩
  simp only [varint_Read]
  rw [read_eq m s hs (by omega)]
  simp only [Option.bind_some, vread]
  have hb := vget_bound (ky s) 0 0 (by omega) (by decide)
  by_cases h : (vget 0 0 (ky s)).2.2 = 0
  · rw [if_pos h, show ((vget 0 0 (ky s)).2.2 != 0) = false from by rw [bne_eq_false_iff_eq]; exact h]
    simp only [cond_false]
    by_cases h2 : (vget 0 0 (ky s)).1 > 1152921504606846976
    · rw [if_pos h2, decide_eq_true h2]; rfl
    · rw [if_neg h2, decide_eq_false h2, wr _ (by omega) (by omega)]
      simp only [cond_false]
      exact congrArg some (Prod.ext rfl (Prod.ext rfl h.symm))
  · rw [if_neg h, show ((vget 0 0 (ky s)).2.2 != 0) = true from by rw [bne_iff_ne]; exact h]; rfl
/-- The reference has one more bound. -/
def vcut (r : Int × Int × Int) : Int × Int × Int := if r.2.2 = 0 ∧ r.1 > 2305843009213693952 then (0, 0, 12) else r
theorem vget_err : ∀ (l : List UInt8) (i a : Nat), (vget i a l).2.2 ≠ 0 → (vget i a l).1 = 0 ∧ (vget i a l).2.1 = 0
  | [], i, a, h => ⟨rfl, rfl⟩
  | b :: l, i, a, h => by
    revert h
    simp only [vget]
    by_cases h1 : 128 ≤ b.toNat
    · rw [if_pos h1]
      by_cases h2 : i = 8
      · rw [if_pos h2]; exact fun _ => ⟨rfl, rfl⟩
      · rw [if_neg h2]; exact vget_err l _ _
    · rw [if_neg h1]
      by_cases h2 : 0 < i ∧ b.toNat = 0
      · rw [if_pos h2]; exact fun _ => ⟨rfl, rfl⟩
      · rw [if_neg h2]; exact fun h => absurd rfl h
/-! ### Writing -/
/-- A number's bytes. -/
def enc (x : Nat) : List UInt8 := if h : 128 ≤ x then UInt8.ofNat (x % 128 + 128) :: enc (x / 128) else [UInt8.ofNat x]
termination_by x
decreasing_by omega
theorem enc_big {x : Nat} (h : 128 ≤ x) : enc x = UInt8.ofNat (x % 128 + 128) :: enc (x / 128) := by rw [enc, dif_pos h]
theorem enc_low {x : Nat} (h : ¬ 128 ≤ x) : enc x = [UInt8.ofNat x] := by rw [enc, dif_neg h]
theorem ofI (x : Nat) (h : x < 256) : UInt8.ofNat ((x : Int)).toNat = UInt8.ofNat x := rfl
theorem room (x : Nat) (h : x < 1000) : (true && (decide ((x + 1) * 1 ≤ 140737488355328) && decide (x + 1 ≤ 9223372036854775807))) = true := by
  simp; omega
theorem bytesOf_snoc (l : List Int) (x : Nat) : bytesOf (l ++ [(x : Int)]) = ⟨(ky (bytesOf l) ++ [UInt8.ofNat x]).toArray⟩ := by
  apply ky_inj
  simp [bytesOf, ky]
theorem groups_l0 (n : Nat) : ∀ (k m x : Nat) (l : List Int), x < 128 ^ (k + 1) → k ≤ 8 → k < m → l.length + k ≤ 100 →
    ∃ l', varint_appendGroups_l0 n m l (x : Int) = some l' ∧ ky (bytesOf l') = ky (bytesOf l) ++ enc x
  | _, 0, x, l, hx, hk, hm, hl => by omega
  | k, m + 1, x, l, hx, hk, hm, hl => by
    have hx' : x < 18446744073709551616 := Nat.lt_of_lt_of_le hx (Nat.le_trans (Nat.pow_le_pow_right (by omega) (show k + 1 ≤ 9 by omega)) (by decide))
    simp only [varint_appendGroups_l0]
    by_cases h : 128 ≤ x
    · rw [show decide ((x : Int) ≥ 128) = true from decide_eq_true (by omega), room _ (by omega), and64 x hx', wr8 _ (by omega), or8 _ (by omega), shr64 x hx']
      simp only [cond_true]
      cases k with
      | zero => simp at hx; omega
      | succ k =>
        obtain ⟨l', g1, g2⟩ := groups_l0 n k m (x / 128) (l ++ [((x % 128 + 128 : Nat) : Int)]) (by rw [Nat.pow_succ] at hx; omega) (by omega) (by omega) (by rw [List.length_append, List.length_singleton]; omega)
        refine ⟨l', g1, ?_⟩
        rw [g2, enc_big h, bytesOf_snoc]
        simp [ky]
    · rw [show decide ((x : Int) ≥ 128) = false from decide_eq_false (by omega)]
      simp only [cond_false, varint_appendGroups_s1]
      rw [room _ (by omega), wr8 _ (by omega), enc_low h]
      exact ⟨_, rfl, by rw [bytesOf_snoc]⟩
/-- The bytes as a string. -/
def bs (l : List UInt8) : ByteArray := ⟨l.toArray⟩
theorem ky_bs (l : List UInt8) : ky (bs l) = l := by simp [ky, bs]
theorem bs_ky (s : ByteArray) : bs (ky s) = s := ky_inj (ky_bs _)
theorem bs_size (l : List UInt8) : (bs l).size = l.length := by rw [← ky_len, ky_bs]
theorem ky_app (s t : ByteArray) : ky (s ++ t) = ky s ++ ky t := by simp [ky]
theorem enc_len : ∀ (k x : Nat), x < 128 ^ (k + 1) → 1 ≤ (enc x).length ∧ (enc x).length ≤ k + 1
  | k, x, hx => by
    by_cases h : 128 ≤ x
    · cases k with
      | zero => simp at hx; omega
      | succ k =>
        have := enc_len k (x / 128) (by rw [Nat.pow_succ] at hx; omega)
        rw [enc_big h, List.length_cons]; omega
    · rw [enc_low h]; simp
theorem p60 : (1152921504606846976 : Nat) < 128 ^ (8 + 1) := by decide
theorem Append_eq (n : Nat) (s : ByteArray) (x : Nat) (hx : x ≤ 1152921504606846976) (hs : s.size < 1000000000) (hn : 30 ≤ n) : varint_Append n s (x : Int) = some (s ++ bs (enc x), 0) := by
  obtain ⟨m, rfl⟩ : ∃ m, n = m + 2 := ⟨n - 2, by omega⟩
  have hx' : x < 128 ^ (8 + 1) := by have := p60; omega
  obtain ⟨l', g1, g2⟩ := groups_l0 m 8 m x [] hx' (by omega) (by omega) (by simp)
  have g3 : bytesOf l' = bs (enc x) := by apply ky_inj; rw [g2, ky_bs]; simp [bytesOf, ky]
  have := enc_len 8 x hx'
  simp only [varint_Append, varint_appendGroups]
  rw [wr64 _ (by omega), g1, show decide ((x : Int) < 0) = false from decide_eq_false (by omega), show decide ((x : Int) > 1152921504606846976) = false from decide_eq_false (by omega)]
  simp only [cond_false, Option.bind_some]
  rw [g3, bs_size, show decide (s.size + (enc x).length ≤ 9223372036854775807) = true from decide_eq_true (by omega)]
  rfl
/-! ### Both -/
theorem u8_nat (x : Nat) (h : x < 256) : (UInt8.ofNat x).toNat = x := by simp; omega
theorem vget_enc : ∀ (k x i a : Nat) (l : List UInt8), x < 128 ^ (k + 1) → i + k ≤ 8 → (0 < i → 0 < x) → vget i a (enc x ++ l) = (((a + x * 2 ^ (7 * i) : Nat) : Int), ((i + (enc x).length : Nat) : Int), 0)
  | k, x, i, a, l, hx, hk, h0 => by
    by_cases h : 128 ≤ x
    · cases k with
      | zero => simp at hx; omega
      | succ k =>
        rw [enc_big h, List.cons_append, vget, u8_nat _ (by omega), if_pos (by omega), if_neg (by omega), vget_enc k (x / 128) (i + 1) _ l (by rw [Nat.pow_succ] at hx; omega) (by omega) (by omega)]
        rw [show (x % 128 + 128) % 128 = x % 128 by omega, pow_next, List.length_cons]
        have : a + x % 128 * 2 ^ (7 * i) + x / 128 * (128 * 2 ^ (7 * i)) = a + x * 2 ^ (7 * i) := by
          rw [← Nat.mul_assoc, Nat.add_assoc, ← Nat.add_mul]; congr 2; omega
        rw [this, show i + 1 + (enc (x / 128)).length = i + ((enc (x / 128)).length + 1) by omega]
    · rw [enc_low h, List.singleton_append, vget, u8_nat _ (by omega), if_neg (by omega), if_neg (by omega)]
      rfl
theorem vread_enc (x : Nat) (l : List UInt8) (hx : x ≤ 1152921504606846976) : vread (enc x ++ l) = ((x : Int), ((enc x).length : Int), 0) := by
  have hx' : x < 128 ^ (8 + 1) := by have := p60; omega
  unfold vread
  rw [vget_enc 8 x 0 0 l hx' (by omega) (by omega)]
  simp only [Nat.mul_zero, Nat.pow_zero, Nat.mul_one, Nat.zero_add, if_true]
  rw [if_neg (by omega)]
theorem vget_dec : ∀ (l : List UInt8) (i a : Nat) (v k : Int), i ≤ 8 → vget i a l = (v, k, 0) → ∃ x l', l = enc x ++ l' ∧ v = ((a + x * 2 ^ (7 * i) : Nat) : Int) ∧ k = ((i + (enc x).length : Nat) : Int) ∧ (0 < i → 0 < x)
  | [], i, a, v, k, hi, h => by simp [vget] at h
  | b :: l, i, a, v, k, hi, h => by
    have hb := b.toNat_lt
    rw [vget] at h
    by_cases h1 : 128 ≤ b.toNat
    · rw [if_pos h1] at h
      by_cases h2 : i = 8
      · rw [if_pos h2] at h; simp at h
      · rw [if_neg h2] at h
        obtain ⟨x, l', e1, e2, e3, e4⟩ := vget_dec l (i + 1) _ v k (by omega) h
        have hx := e4 (by omega)
        have hB : 128 ≤ b.toNat % 128 + x * 128 := by omega
        refine ⟨b.toNat % 128 + x * 128, l', ?_, ?_, ?_, fun _ => by omega⟩
        · rw [enc_big hB, e1, show (b.toNat % 128 + x * 128) / 128 = x by omega, show (b.toNat % 128 + x * 128) % 128 + 128 = b.toNat by omega]
          simp
        · rw [e2, pow_next]
          congr 1
          rw [Nat.add_mul, Nat.mul_assoc, Nat.add_assoc]
        · rw [e3, enc_big hB, show (b.toNat % 128 + x * 128) / 128 = x by omega, List.length_cons]
          omega
    · rw [if_neg h1] at h
      by_cases h2 : 0 < i ∧ b.toNat = 0
      · rw [if_pos h2] at h; simp at h
      · rw [if_neg h2] at h
        simp only [Prod.mk.injEq] at h
        refine ⟨b.toNat, l, ?_, h.1.symm, ?_, fun hh => by omega⟩
        · rw [enc_low h1]; simp
        · rw [enc_low h1]; exact h.2.1.symm
theorem vread_dec (l : List UInt8) (v k : Int) (h : vread l = (v, k, 0)) : ∃ x l', l = enc x ++ l' ∧ v = (x : Int) ∧ k = ((enc x).length : Int) ∧ x ≤ 1152921504606846976 := by
  unfold vread at h
  by_cases h1 : (vget 0 0 l).2.2 = 0
  · rw [if_pos h1] at h
    by_cases h2 : (vget 0 0 l).1 > 1152921504606846976
    · rw [if_pos h2] at h; simp at h
    · rw [if_neg h2] at h
      obtain ⟨x, l', e1, e2, e3, e4⟩ := vget_dec l 0 0 v k (by omega) h
      rw [h] at h2
      refine ⟨x, l', e1, by simpa using e2, by simpa using e3, ?_⟩
      have h2' : ¬ v > 1152921504606846976 := h2
      have : v = (x : Int) := by simpa using e2
      omega
  · rw [if_neg h1] at h
    simp only [Prod.mk.injEq] at h
    exact absurd h.2.2 h1
theorem vread_err (l : List UInt8) (h : (vread l).2.2 ≠ 0) : vread l = (0, 0, (vread l).2.2) := by
  revert h
  unfold vread
  by_cases h1 : (vget 0 0 l).2.2 = 0
  · simp only [if_pos h1]
    by_cases h2 : (vget 0 0 l).1 > 1152921504606846976
    · simp only [if_pos h2]; exact fun _ => trivial
    · simp only [if_neg h2]; exact fun h => absurd h1 h
  · simp only [if_neg h1]; exact fun _ => trivial
end Go.Proofs.Ytkkinfbipndfdaa
