/- Plain laws of the log: the checksum tells a change of at most four neighbouring bytes. -/
import Derived.Test.YtkkinfbipndfdaaSq3
set_option linter.unusedVariables false
set_option linter.unusedSimpArgs false
set_option maxRecDepth 100000
namespace Go.Proofs.Ytkkinfbipndfdaa
open Go Go.AM

theorem sh1_zero {x : BitVec 32} (h : sh1 x = 0#32) : x = 0#32 := by
  have h31 := congrArg (fun y : BitVec 32 => y.getLsbD 31) h
  have hb : x.getLsbD 0 = false := by
    cases hx : x.getLsbD 0 with
    | false => rfl
    | true =>
      exfalso
      simp only [sh1, hx, cond_true, BitVec.getLsbD_xor, BitVec.getLsbD_ushiftRight, BitVec.getLsbD_zero] at h31
      rw [BitVec.getLsbD_of_ge x _ (by omega), show poly.getLsbD 31 = true from by decide] at h31
      simp at h31
  rw [sh1_low x hb] at h
  apply BitVec.eq_of_getLsbD_eq; intro i hi
  rw [BitVec.getLsbD_zero]
  cases i with
  | zero => exact hb
  | succ i =>
    have := congrArg (fun y : BitVec 32 => y.getLsbD i) h
    simp only [BitVec.getLsbD_ushiftRight, BitVec.getLsbD_zero] at this
    rw [Nat.add_comm]; exact this
theorem shN_zero0 : ∀ k : Nat, shN k 0#32 = 0#32
  | 0 => rfl
  | k + 1 => by
    simp only [shN]
    rw [show sh1 0#32 = 0#32 from by decide]
    exact shN_zero0 k
theorem shN_zero : ∀ (k : Nat) {x : BitVec 32}, shN k x = 0#32 → x = 0#32
  | 0, x, h => h
  | k + 1, x, h => sh1_zero (shN_zero k h)
theorem xor_zero {x y : BitVec 32} (h : x ^^^ y = 0#32) : x = y := by
  have : (x ^^^ y) ^^^ y = 0#32 ^^^ y := by rw [h]
  rwa [BitVec.xor_assoc, BitVec.xor_self, BitVec.xor_zero, BitVec.zero_xor] at this
theorem sh8_xor (x y : BitVec 32) : sh8 (x ^^^ y) = sh8 x ^^^ sh8 y := shN_xor 8 x y
theorem bv_xor (a b : UInt8) : bv (a ^^^ b) = bv a ^^^ bv b := by
  apply BitVec.eq_of_toNat_eq
  rw [bv_nat, BitVec.toNat_xor, bv_nat, bv_nat, UInt8.toNat_xor]
/-- A byte's bits, in a register. -/
theorem bv_bit (b : UInt8) (i : Nat) (h : 8 ≤ i) : (bv b).getLsbD i = false := by
  rw [BitVec.getLsbD, bv_nat]
  exact Nat.testBit_lt_two_pow (Nat.lt_of_lt_of_le b.toNat_lt (Nat.pow_le_pow_right (by omega) h))
theorem bv_shl (b : UInt8) (k : Nat) (hk : k ≤ 16) : sh8 (bv b <<< (k + 8)) = bv b <<< k := by
  unfold sh8
  rw [shN_low 8 _ (fun i hi => by rw [BitVec.getLsbD_shiftLeft]; simp; omega)]
  apply BitVec.eq_of_getLsbD_eq; intro i hi
  simp only [BitVec.getLsbD_ushiftRight, BitVec.getLsbD_shiftLeft]
  by_cases h : 8 + i < 32
  · by_cases h2 : i < k
    · simp [h2, show 8 + i < k + 8 by omega]
    · simp [h2, h, hi, show ¬ 8 + i < k + 8 by omega, show 8 + i - (k + 8) = i - k by omega]
  · rw [bv_bit b (i - k) (by omega)]
    simp [h]
theorem bv_zero {b : UInt8} (h : ∀ i, i < 8 → (bv b).getLsbD i = false) : b = 0 := by
  have e : bv b = 0#32 := by
    apply BitVec.eq_of_getLsbD_eq; intro i hi
    rw [BitVec.getLsbD_zero]
    rcases Nat.lt_or_ge i 8 with h1 | h1
    · exact h i h1
    · exact bv_bit b i h1
  have := congrArg BitVec.toNat e
  rw [bv_nat] at this
  exact UInt8.toNat_inj.1 this
/-- Four bytes in a row, from an empty register: nothing is left of them only if they are nothing. -/
theorem four_zero (a b c d : UInt8) (h : crcL 0#32 [a, b, c, d] = 0#32) : a = 0 ∧ b = 0 ∧ c = 0 ∧ d = 0 := by
  simp only [crcL, BitVec.zero_xor] at h
  have e3 : sh8 (sh8 (sh8 (bv a) ^^^ bv b) ^^^ bv c) ^^^ bv d = 0#32 := shN_zero 8 h
  have e3' : sh8 ((sh8 (sh8 (bv a) ^^^ bv b) ^^^ bv c) ^^^ bv d <<< 8) = 0#32 := by
    rw [sh8_xor, bv_shl d 0 (by omega)]; simpa using e3
  have e2 : sh8 (sh8 (bv a) ^^^ bv b) ^^^ (bv c ^^^ bv d <<< 8) = 0#32 := by rw [← BitVec.xor_assoc]; exact shN_zero 8 e3'
  have e2' : sh8 ((sh8 (bv a) ^^^ bv b) ^^^ (bv c <<< 8 ^^^ bv d <<< 16)) = 0#32 := by
    rw [sh8_xor, sh8_xor (bv c <<< 8), bv_shl c 0 (by omega), bv_shl d 8 (by omega)]; simpa using e2
  have e1 : sh8 (bv a) ^^^ (bv b ^^^ (bv c <<< 8 ^^^ bv d <<< 16)) = 0#32 := by rw [← BitVec.xor_assoc]; exact shN_zero 8 e2'
  have e1' : sh8 (bv a ^^^ (bv b <<< 8 ^^^ (bv c <<< 16 ^^^ bv d <<< 24))) = 0#32 := by
    rw [sh8_xor, sh8_xor (bv b <<< 8), sh8_xor (bv c <<< 16), bv_shl b 0 (by omega), bv_shl c 8 (by omega), bv_shl d 16 (by omega)]; simpa using e1
  have e0 := shN_zero 8 e1'
  have hb : ∀ i, i < 32 → ((bv a).getLsbD i ^^ ((decide (8 ≤ i) && (bv b).getLsbD (i - 8)) ^^ ((decide (16 ≤ i) && (bv c).getLsbD (i - 16)) ^^ (decide (24 ≤ i) && (bv d).getLsbD (i - 24))))) = false := by
    intro i hi
    have := congrArg (fun y : BitVec 32 => y.getLsbD i) e0
    simp only [BitVec.getLsbD_xor, BitVec.getLsbD_shiftLeft, BitVec.getLsbD_zero, hi, decide_true, Bool.true_and] at this
    rw [← this]
    congr 1
    congr 1
    · rcases Nat.lt_or_ge i 8 with h1 | h1
      · simp [h1, show ¬ 8 ≤ i by omega]
      · simp [h1, show ¬ i < 8 by omega]
    · congr 1
      · rcases Nat.lt_or_ge i 16 with h1 | h1
        · simp [h1, show ¬ 16 ≤ i by omega]
        · simp [h1, show ¬ i < 16 by omega]
      · rcases Nat.lt_or_ge i 24 with h1 | h1
        · simp [h1, show ¬ 24 ≤ i by omega]
        · simp [h1, show ¬ i < 24 by omega]
  have ha : a = 0 := bv_zero fun i hi => by
    have := hb i (by omega)
    simpa [show ¬ 8 ≤ i by omega, show ¬ 16 ≤ i by omega, show ¬ 24 ≤ i by omega] using this
  have hb' : b = 0 := bv_zero fun i hi => by
    have := hb (i + 8) (by omega)
    rw [bv_bit a (i + 8) (by omega)] at this
    simpa [show ¬ 16 ≤ i + 8 by omega, show ¬ 24 ≤ i + 8 by omega] using this
  have hc : c = 0 := bv_zero fun i hi => by
    have := hb (i + 16) (by omega)
    rw [bv_bit a (i + 16) (by omega), bv_bit b (i + 16 - 8) (by omega)] at this
    simpa [show ¬ 24 ≤ i + 16 by omega] using this
  have hd : d = 0 := bv_zero fun i hi => by
    have := hb (i + 24) (by omega)
    rw [bv_bit a (i + 24) (by omega), bv_bit b (i + 24 - 8) (by omega), bv_bit c (i + 24 - 16) (by omega)] at this
    simpa using this
  exact ⟨ha, hb', hc, hd⟩
theorem crcL_zeros : ∀ (k : Nat) {x : BitVec 32}, crcL x (List.replicate k 0) = 0#32 → x = 0#32
  | 0, x, h => h
  | k + 1, x, h => by
    simp only [List.replicate_succ, crcL] at h
    have := shN_zero 8 (crcL_zeros k h)
    rwa [show bv 0 = 0#32 from by decide, BitVec.xor_zero] at this
theorem crcL_zeros0 : ∀ k : Nat, crcL 0#32 (List.replicate k 0) = 0#32
  | 0 => rfl
  | k + 1 => by
    simp only [List.replicate_succ, crcL]
    rw [show bv 0 = 0#32 from by decide, BitVec.xor_zero, show sh8 0#32 = 0#32 from shN_zero0 8]
    exact crcL_zeros0 k
/-- At most four bytes. -/
theorem few_zero (l : List UInt8) (hl : l.length ≤ 4) (h : crcL 0#32 l = 0#32) : ∀ b ∈ l, b = 0 := by
  have h4 : crcL 0#32 (l ++ List.replicate (4 - l.length) 0) = 0#32 := by rw [crcL_app, h]; exact crcL_zeros0 _
  match l, hl with
  | [], _ => simp
  | [a], _ => have := four_zero a 0 0 0 h4; simp [this]
  | [a, b], _ => have := four_zero a b 0 0 h4; simp [this]
  | [a, b, c], _ => have := four_zero a b c 0 h4; simp [this]
  | [a, b, c, d], _ => have := four_zero a b c d h4; simp [this]
  | _ :: _ :: _ :: _ :: _ :: _, hl => simp at hl
/-- Registers and bytes, side by side. -/
theorem crcL_xor : ∀ (l m : List UInt8) (x y : BitVec 32), l.length = m.length → crcL (x ^^^ y) (List.zipWith (· ^^^ ·) l m) = crcL x l ^^^ crcL y m
  | [], [], x, y, _ => rfl
  | a :: l, b :: m, x, y, h => by
    simp only [List.zipWith_cons_cons, crcL]
    rw [← crcL_xor l m _ _ (by simpa using h), ← sh8_xor, bv_xor]
    congr 2
    simp only [BitVec.xor_assoc]
    congr 1
    rw [← BitVec.xor_assoc, BitVec.xor_comm y, BitVec.xor_assoc]
  | [], _ :: _, _, _, h => by simp at h
  | _ :: _, [], _, _, h => by simp at h
theorem crcL_reg {l : List UInt8} {x y : BitVec 32} (h : crcL x l = crcL y l) : x = y := by
  have h1 := crcL_xor l l x y rfl
  rw [h, BitVec.xor_self] at h1
  have : List.zipWith (· ^^^ ·) l l = List.replicate l.length (0 : UInt8) := by
    apply List.ext_getElem
    · simp
    · intro i h1 h2; simp
  rw [this] at h1
  exact xor_zero (crcL_zeros _ h1)
/-- The checksum tells them apart. -/
theorem crc_tells (u v w t : List UInt8) (hl : v.length = w.length) (h4 : v.length ≤ 4) (h : crc (u ++ v ++ t) = crc (u ++ w ++ t)) : v = w := by
  have h1 : crcL (BitVec.allOnes 32) (u ++ v ++ t) = crcL (BitVec.allOnes 32) (u ++ w ++ t) := by
    have := congrArg (fun z => ~~~z) h
    simpa only [crc, BitVec.not_not] using this
  rw [crcL_app, crcL_app _ v, crcL_app, crcL_app _ w] at h1
  have h2 := crcL_reg h1
  have h3 := crcL_xor v w (crcL (BitVec.allOnes 32) u) (crcL (BitVec.allOnes 32) u) hl
  rw [BitVec.xor_self, h2, BitVec.xor_self] at h3
  have h5 := few_zero _ (by simp; omega) h3
  apply List.ext_getElem hl
  intro i g1 g2
  have := h5 (v[i] ^^^ w[i]) (by
    rw [List.mem_iff_getElem]
    exact ⟨i, by simp; omega, by simp⟩)
  have e : v[i] ^^^ w[i] ^^^ w[i] = 0 ^^^ w[i] := by rw [this]
  rwa [UInt8.xor_assoc, UInt8.xor_self, UInt8.xor_zero, UInt8.zero_xor] at e
theorem four_inj {x y : BitVec 32} (h : four x = four y) : x = y := by
  unfold four at h
  simp only [List.cons.injEq, and_true] at h
  obtain ⟨h0, h1, h2, h3⟩ := h
  have g0 := congrArg UInt8.toNat h0
  have g1 := congrArg UInt8.toNat h1
  have g2 := congrArg UInt8.toNat h2
  have g3 := congrArg UInt8.toNat h3
  simp only [UInt8.toNat_ofNat', BitVec.toNat_ushiftRight, Nat.shiftRight_eq_div_pow] at g0 g1 g2 g3
  have hx := x.isLt
  have hy := y.isLt
  apply BitVec.eq_of_toNat_eq
  omega
/-- A frame with a changed record is none. -/
theorem frame1_changed (r r' B : List UInt8) (hl : r'.length = r.length) (hr : r.length ≤ 262144) (h : crc (enc r.length ++ r) ≠ crc (enc r.length ++ r')) : frame1 (enc r.length ++ r' ++ four (crc (enc r.length ++ r)) ++ B) = none := by
  have hv : vread (enc r.length ++ r' ++ four (crc (enc r.length ++ r)) ++ B) = ((r.length : Int), ((enc r.length).length : Int), 0) := by
    rw [List.append_assoc, List.append_assoc]; exact vread_enc _ _ (by omega)
  unfold frame1
  simp only [hv]
  split
  · simp only [toNat_c]
    have e1 : (enc r.length ++ r' ++ four (crc (enc r.length ++ r)) ++ B).take ((enc r.length).length + r.length) = enc r.length ++ r' := by
      rw [List.append_assoc (enc r.length ++ r'), ← hl, ← List.length_append, List.take_left]
    have e2 : (enc r.length ++ r' ++ four (crc (enc r.length ++ r)) ++ B).take ((enc r.length).length + r.length + 4) = enc r.length ++ r' ++ four (crc (enc r.length ++ r)) := by
      have : (enc r.length).length + r.length + 4 = (enc r.length ++ r' ++ four (crc (enc r.length ++ r))).length := by simp only [List.length_append, four_len]; omega
      rw [this, List.take_left]
    rw [e1, e2, if_neg]
    intro hh
    exact h (four_inj (List.append_cancel_left hh))
  · rfl
end Go.Proofs.Ytkkinfbipndfdaa
