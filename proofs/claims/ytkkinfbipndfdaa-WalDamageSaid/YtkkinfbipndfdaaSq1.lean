/- Plain laws of the log, 1: the checksum. -/
import Derived.Test.YtkkinfbipndfdaaSp0
set_option linter.unusedVariables false
set_option linter.unusedSimpArgs false
set_option maxRecDepth 100000
namespace Go.Proofs.Ytkkinfbipndfdaa
open Go Go.AM

/-! ### 32 bits -/
theorem ofIntV (x : BitVec 32) : BitVec.ofInt 32 (x.toNat : Int) = x := by simp
theorem wrapV (x : BitVec 32) : IntKind.wrap .u32 (x.toNat : Int) = x.toNat := by
  have := x.isLt
  simp only [IntKind.wrap, IntKind.bits, IntKind.signed, Bool.false_and]
  simp; omega
theorem xorV (x y : BitVec 32) : iXor .u32 (x.toNat) (y.toNat) = ((x ^^^ y).toNat : Int) := by
  show IntKind.wrap .u32 ((BitVec.ofInt 32 (x.toNat : Int) ^^^ BitVec.ofInt 32 (y.toNat : Int)).toNat) = _
  rw [ofIntV, ofIntV, wrapV]
theorem andV (x y : BitVec 32) : iAnd .u32 (x.toNat) (y.toNat) = ((x &&& y).toNat : Int) := by
  show IntKind.wrap .u32 ((BitVec.ofInt 32 (x.toNat : Int) &&& BitVec.ofInt 32 (y.toNat : Int)).toNat) = _
  rw [ofIntV, ofIntV, wrapV]
theorem shrV (x : BitVec 32) (k : Nat) (hk : k ≤ 32) : iShr .u32 (x.toNat) (k : Int) = ((x >>> k).toNat : Int) := by
  show (x.toNat : Int).fdiv (2 ^ (min (k : Int).toNat 32)) = _
  rw [show min (k : Int).toNat 32 = k by simp [hk], BitVec.toNat_ushiftRight, Nat.shiftRight_eq_div_pow, Int.fdiv_eq_ediv_of_nonneg _ (by exact Int.pow_nonneg (by omega))]
  rfl
theorem notV (x : BitVec 32) : iNot .u32 (x.toNat) = ((~~~x).toNat : Int) := by
  show IntKind.wrap .u32 ((BitVec.ofInt 32 (IntKind.max .u32 : Int) ^^^ BitVec.ofInt 32 (x.toNat : Int)).toNat) = _
  rw [ofIntV, show BitVec.ofInt 32 (IntKind.max .u32 : Int) = BitVec.allOnes 32 by rfl, BitVec.allOnes_xor, wrapV]
/-- A byte in a register. -/
def bv (b : UInt8) : BitVec 32 := BitVec.ofNat 32 b.toNat
theorem bv_nat (b : UInt8) : (bv b).toNat = b.toNat := by
  have := b.toNat_lt
  simp [bv]
theorem wrapB (b : UInt8) : IntKind.wrap .u32 (b.toNat : Int) = ((bv b).toNat : Int) := by rw [← bv_nat]; exact wrapV _

/-! ### One bit -/
def poly : BitVec 32 := 0x82F63B78#32
def sh1 (x : BitVec 32) : BitVec 32 := (x >>> 1) ^^^ (bif x.getLsbD 0 then poly else 0#32)
def shN : Nat → BitVec 32 → BitVec 32
  | 0, x => x
  | k + 1, x => shN k (sh1 x)
def sh8 (x : BitVec 32) : BitVec 32 := shN 8 x
theorem sh1_xor (x y : BitVec 32) : sh1 (x ^^^ y) = sh1 x ^^^ sh1 y := by
  unfold sh1
  rw [BitVec.ushiftRight_xor_distrib, BitVec.getLsbD_xor]
  generalize x >>> 1 = a
  generalize y >>> 1 = b
  cases x.getLsbD 0 <;> cases y.getLsbD 0 <;> simp only [Bool.xor_false, Bool.xor_true, Bool.not_true, Bool.not_false, cond_true, cond_false, bne_self_eq_false, Bool.false_bne, Bool.true_bne] <;> apply BitVec.eq_of_getLsbD_eq <;> intro i hi <;> simp only [BitVec.getLsbD_xor, BitVec.getLsbD_zero] <;>
    cases a.getLsbD i <;> cases b.getLsbD i <;> cases poly.getLsbD i <;> rfl
theorem shN_xor : ∀ (k : Nat) (x y : BitVec 32), shN k (x ^^^ y) = shN k x ^^^ shN k y
  | 0, _, _ => rfl
  | k + 1, x, y => by simp only [shN]; rw [sh1_xor, shN_xor k]
theorem shN_add : ∀ (k l : Nat) (x : BitVec 32), shN (k + l) x = shN l (shN k x)
  | 0, l, x => by simp [shN]
  | k + 1, l, x => by rw [show k + 1 + l = (k + l) + 1 by omega]; simp only [shN]; exact shN_add k l _
theorem sh1_low (x : BitVec 32) (h : x.getLsbD 0 = false) : sh1 x = x >>> 1 := by unfold sh1; rw [h]; simp
theorem shN_low : ∀ (k : Nat) (x : BitVec 32), (∀ i, i < k → x.getLsbD i = false) → shN k x = x >>> k
  | 0, x, _ => by simp [shN]
  | k + 1, x, h => by
    simp only [shN]
    rw [sh1_low x (h 0 (by omega)), shN_low k _ (fun i hi => by rw [BitVec.getLsbD_ushiftRight]; exact h _ (by omega)), ← BitVec.shiftRight_add, Nat.add_comm]
/-- Half a byte at a time. -/
theorem half (x : BitVec 32) : shN 4 x = (x >>> 4) ^^^ shN 4 (x &&& 15#32) := by
  have e : x = (x &&& ~~~15#32) ^^^ (x &&& 15#32) := by
    apply BitVec.eq_of_getLsbD_eq; intro i hi
    simp only [BitVec.getLsbD_xor, BitVec.getLsbD_and, BitVec.getLsbD_not, hi, decide_true, Bool.true_and]
    cases x.getLsbD i <;> cases (15#32).getLsbD i <;> rfl
  have h1 : shN 4 (x &&& ~~~15#32) = x >>> 4 := by
    rw [shN_low 4 _ (fun i hi => ?_)]
    · apply BitVec.eq_of_getLsbD_eq; intro i hi
      simp only [BitVec.getLsbD_ushiftRight, BitVec.getLsbD_and, BitVec.getLsbD_not]
      by_cases h : 4 + i < 32
      · have : (15#32).getLsbD (4 + i) = false := by
          rcases (show i = 0 ∨ 0 < i by omega) with h0 | h0 <;>
          (simp only [BitVec.getLsbD, BitVec.toNat_ofNat]; exact Nat.testBit_lt_two_pow (Nat.lt_of_lt_of_le (show (15 % 2 ^ 32) < 2 ^ 4 by decide) (Nat.pow_le_pow_right (by omega) (by omega))))
        rw [this]; simp [h]
      · rw [BitVec.getLsbD_of_ge x _ (by omega)]; rfl
    · simp only [BitVec.getLsbD_and, BitVec.getLsbD_not]
      rcases i with _ | _ | _ | _ | i
      · simp
      · simp
      · simp
      · simp
      · omega
  have := congrArg (shN 4) e
  rw [shN_xor, h1] at this
  exact this

/-- The sum of bytes, in a register. -/
def crcL (r : BitVec 32) : List UInt8 → BitVec 32
  | [] => r
  | b :: l => crcL (sh8 (r ^^^ bv b)) l
theorem crcL_app : ∀ (l m : List UInt8) (r : BitVec 32), crcL r (l ++ m) = crcL (crcL r l) m
  | [], _, _ => rfl
  | b :: l, m, r => by simp only [List.cons_append, crcL]; exact crcL_app l m _
def crc (l : List UInt8) : BitVec 32 := ~~~ crcL (BitVec.allOnes 32) l
/-- A register's four bytes. -/
def four (x : BitVec 32) : List UInt8 := [UInt8.ofNat x.toNat, UInt8.ofNat (x >>> 8).toNat, UInt8.ofNat (x >>> 16).toNat, UInt8.ofNat (x >>> 24).toNat]

/-! ### The program's -/
theorem lsb_and (x : BitVec 32) : (iAnd .u32 (x.toNat : Int) 1 != 0) = x.getLsbD 0 := by
  have : iAnd .u32 (x.toNat : Int) 1 = ((x &&& 1#32).toNat : Int) := andV x 1#32
  rw [this]
  cases h : x.getLsbD 0 with
  | false =>
    have : x &&& 1#32 = 0#32 := by
      apply BitVec.eq_of_getLsbD_eq; intro i hi
      rw [BitVec.getLsbD_and]
      rcases i with _ | i
      · rw [h]; rfl
      · simp
    rw [this]; rfl
  | true =>
    have : x &&& 1#32 = 1#32 := by
      apply BitVec.eq_of_getLsbD_eq; intro i hi
      rw [BitVec.getLsbD_and]
      rcases i with _ | i
      · rw [h]; rfl
      · simp
    rw [this]; rfl
theorem shifted_l0 (n : Nat) (p : Nat) : ∀ (k i m : Nat) (x : BitVec 32), i + k = p → p < 1000 → k < m → crc32c_shifted_l0 n (p : Int) m (x.toNat : Int) (i : Int) = some ((shN k x).toNat : Int)
  | 0, i, 0, x, h, hp, hk => by omega
  | 0, i, m + 1, x, h, hp, hk => by
    simp only [crc32c_shifted_l0, shN]
    rw [show decide ((i : Int) < (p : Int)) = false from decide_eq_false (by omega)]
    rfl
  | k + 1, i, 0, x, h, hp, hk => by omega
  | k + 1, i, m + 1, x, h, hp, hk => by
    have ih := fun y => shifted_l0 n p k (i + 1) m y (by omega) hp (by omega)
    simp only [crc32c_shifted_l0, crc32c_shifted_s1]
    rw [show decide ((i : Int) < (p : Int)) = true from decide_eq_true (by omega), wr1 i (by omega), lsb_and]
    simp only [cond_true]
    have h1 : iShr .u32 (x.toNat : Int) 1 = ((x >>> 1).toNat : Int) := shrV x 1 (by omega)
    rw [h1, show ((2197175160 : Int)) = (poly.toNat : Int) by rfl, xorV]
    simp only [shN, sh1]
    cases x.getLsbD 0 with
    | false => simp only [cond_false]; rw [ih]; simp
    | true => simp only [cond_true]; rw [ih]
theorem shifted_eq (n p : Nat) (x : BitVec 32) (hp : p < 1000) (hn : p + 2 ≤ n) : crc32c_shifted n (x.toNat : Int) (p : Int) = some ((shN p x).toNat : Int) := by
  obtain ⟨m, rfl⟩ : ∃ m, n = m + 1 := ⟨n - 1, by omega⟩
  exact shifted_l0 m p p 0 m x (by omega) hp (by omega)

theorem ky_len (s : ByteArray) : (ky s).length = s.size := by cases s; rfl
theorem dec3 (a b c : Nat) (h : a ≤ b) (h' : b ≤ c) : (decide ((0 : Int) ≤ (a : Int)) && decide ((a : Int) ≤ (b : Int)) && decide ((b : Int) ≤ (c : Int))) = true := by
  simp; omega
theorem dec3z (b c : Nat) (h' : b ≤ c) : (decide ((0 : Int) ≤ 0) && decide ((0 : Int) ≤ (b : Int)) && decide ((b : Int) ≤ (c : Int))) = true := dec3 0 b c (by omega) h'
def halves (i : Nat) : Int := ((shN 4 (BitVec.ofNat 32 i)).toNat : Int)
theorem fed_tab (n : Nat) (r : Int) (s : ByteArray) (hn : 20 ≤ n) : ∀ (k i m : Nat) (l : List Int), i + k = 16 → k < m → l.length = 16 → (∀ j, j < i → l.getD j 0 = halves j) →
    ∃ l', l'.length = 16 ∧ (∀ j, j < 16 → l'.getD j 0 = halves j) ∧ crc32c_fed_l0 n r s m (i : Int) l = crc32c_fed_s1 n r s l'
  | 0, i, 0, l, h, hk, hl, hj => by omega
  | 0, i, m + 1, l, h, hk, hl, hj => by
    refine ⟨l, hl, fun j h1 => hj j (by omega), ?_⟩
    simp only [crc32c_fed_l0]
    rw [show decide ((i : Int) < 16) = false from decide_eq_false (by omega)]
    rfl
  | k + 1, i, 0, l, h, hk, hl, hj => by omega
  | k + 1, i, m + 1, l, h, hk, hl, hj => by
    have hx : ((BitVec.ofNat 32 i).toNat : Int) = (i : Int) := by simp; omega
    have hs := shifted_eq n 4 (BitVec.ofNat 32 i) (by omega) (by omega)
    rw [hx] at hs
    have hw : IntKind.wrap .u32 (i : Int) = (i : Int) := by rw [← hx]; exact wrapV _
    simp only [crc32c_fed_l0]
    rw [show decide ((i : Int) < 16) = true from decide_eq_true (by omega), hw]
    simp only [cond_true]
    rw [show crc32c_shifted n (i : Int) 4 = some (halves i) from hs]
    simp only [Option.bind_some]
    rw [show (decide ((0 : Int) ≤ (i : Int)) && decide ((i : Int) < ((16 : Nat) : Int))) = true from dec_in i 16 (by omega), toNat_c, show Nat.blt i l.length = true by rw [Nat.blt_eq]; omega, wr1 i (by omega)]
    simp only [cond_true]
    refine fed_tab n r s hn k (i + 1) m _ (by omega) (by omega) (by simpa using hl) (fun j h1 => ?_)
    by_cases e : j = i
    · subst e; simp [List.getD, hl, show j < 16 by omega]
    · have := hj j (by omega)
      simp only [List.getD, List.getElem?_set, if_neg (Ne.symm e)] at this ⊢
      exact this

theorem nib (x : BitVec 32) : ∃ j : Nat, j < 16 ∧ iAnd .u32 (x.toNat : Int) 15 = (j : Int) ∧ halves j = ((shN 4 (x &&& 15#32)).toNat : Int) := by
  have h1 : iAnd .u32 (x.toNat : Int) 15 = ((x &&& 15#32).toNat : Int) := andV x 15#32
  have h2 : (x &&& 15#32).toNat < 16 := by
    rw [BitVec.toNat_and]
    have : x.toNat &&& (15#32).toNat ≤ (15#32).toNat := Nat.and_le_right
    have h3 : (15#32).toNat = 15 := rfl
    omega
  refine ⟨(x &&& 15#32).toNat, h2, h1, ?_⟩
  unfold halves
  rw [BitVec.ofNat_toNat]; simp
theorem bt_get (s : ByteArray) (i : Nat) (h : i < s.size) : bt s i = (((ky s)[i]'(by rw [ky_len]; exact h)).toNat : Int) := by
  unfold bt
  have : i < s.data.toList.length := by have := ky_len s; simp only [ky] at this; omega
  simp [List.getD, List.getElem?_eq_getElem this]
theorem drop_ky (s : ByteArray) (i : Nat) (h : i < s.size) : (ky s).drop i = (ky s)[i]'(by rw [ky_len]; exact h) :: (ky s).drop (i + 1) := List.drop_eq_getElem_cons _
theorem fed_l2 (n : Nat) (s : ByteArray) (l : List Int) (hl : l.length = 16) (ht : ∀ j, j < 16 → l.getD j 0 = halves j) : ∀ (k i m : Nat) (x : BitVec 32), i + k = s.size → s.size < 1000000000 → k < m →
    crc32c_fed_l2 n s l m (x.toNat : Int) (i : Int) = some ((crcL x ((ky s).drop i)).toNat : Int)
  | 0, i, 0, x, h, hs, hk => by omega
  | 0, i, m + 1, x, h, hs, hk => by
    simp only [crc32c_fed_l2]
    rw [show decide ((i : Int) < (s.size : Int)) = false from decide_eq_false (by omega), List.drop_eq_nil_of_le (by rw [ky_len]; omega)]
    rfl
  | k + 1, i, 0, x, h, hs, hk => by omega
  | k + 1, i, m + 1, x, h, hs, hk => by
    have hi : i < s.size := by omega
    simp only [crc32c_fed_l2]
    rw [dec_in i s.size hi, show decide ((i : Int) < (s.size : Int)) = true from decide_eq_true (by omega), toNat_c, bt_get s i hi, wrapB, xorV]
    obtain ⟨j1, hj1, e1, t1⟩ := nib (x ^^^ bv ((ky s)[i]'(by rw [ky_len]; exact hi)))
    have s1 : ∀ y : BitVec 32, iShr .u32 (y.toNat : Int) 4 = ((y >>> 4).toNat : Int) := fun y => shrV y 4 (by omega)
    rw [e1, toNat_c, ht j1 hj1, t1, s1, xorV, ← half]
    obtain ⟨j2, hj2, e2, t2⟩ := nib (shN 4 (x ^^^ bv ((ky s)[i]'(by rw [ky_len]; exact hi))))
    rw [e2, toNat_c, ht j2 hj2, t2, s1, xorV, ← half, dec_in j1 16 hj1, dec_in j2 16 hj2, hl, show Nat.blt j1 16 = true by rw [Nat.blt_eq]; exact hj1, show Nat.blt j2 16 = true by rw [Nat.blt_eq]; exact hj2, wr1 i (by omega)]
    simp only [cond_true]
    rw [fed_l2 n s l hl ht k (i + 1) m _ (by omega) hs (by omega), drop_ky s i hi]
    simp only [crcL, sh8]
    rw [show (8 : Nat) = 4 + 4 by rfl, shN_add]
theorem fed_eq (n : Nat) (s : ByteArray) (x : BitVec 32) (hs : s.size < 1000000000) (hn : s.size + 30 ≤ n) : crc32c_fed n (x.toNat : Int) s = some ((crcL x (ky s)).toNat : Int) := by
  obtain ⟨m, rfl⟩ : ∃ m, n = m + 1 := ⟨n - 1, by omega⟩
  obtain ⟨l', h1, h2, h3⟩ := fed_tab m (x.toNat : Int) s (by omega) 16 0 m (List.replicate 16 0) (by omega) (by omega) (by simp) (by omega)
  simp only [crc32c_fed]
  refine Eq.trans h3 ?_
  simp only [crc32c_fed_s1]
  have := fed_l2 m s l' h1 h2 s.size 0 m x (by omega) hs (by omega)
  simpa using this
theorem sum_eq (n : Nat) (s : ByteArray) (hs : s.size < 1000000000) (hn : s.size + 40 ≤ n) : crc32c_Sum n s = some ((crc (ky s)).toNat : Int) := by
  obtain ⟨m, rfl⟩ : ∃ m, n = m + 2 := ⟨n - 2, by omega⟩
  simp only [crc32c_Sum, crc32c_Update]
  have h0 : iNot .u32 0 = ((BitVec.allOnes 32).toNat : Int) := by
    have := notV 0#32; simpa using this
  rw [h0, fed_eq m s _ hs (by omega)]
  simp only [Option.bind_some]
  rw [notV]; rfl
theorem byteV (x : BitVec 32) : IntKind.wrap .u8 (x.toNat : Int) = ((UInt8.ofNat x.toNat).toNat : Int) := by
  simp only [IntKind.wrap, IntKind.bits, IntKind.signed, Bool.false_and]
  simp
theorem bytesOf_four (x : BitVec 32) : bytesOf [IntKind.wrap .u8 (x.toNat : Int), IntKind.wrap .u8 (iShr .u32 (x.toNat : Int) 8), IntKind.wrap .u8 (iShr .u32 (x.toNat : Int) 16), IntKind.wrap .u8 (iShr .u32 (x.toNat : Int) 24)] = ⟨(four x).toArray⟩ := by
  have h8 : iShr .u32 (x.toNat : Int) 8 = ((x >>> 8).toNat : Int) := shrV x 8 (by omega)
  have h16 : iShr .u32 (x.toNat : Int) 16 = ((x >>> 16).toNat : Int) := shrV x 16 (by omega)
  have h24 : iShr .u32 (x.toNat : Int) 24 = ((x >>> 24).toNat : Int) := shrV x 24 (by omega)
  rw [h8, h16, h24, byteV, byteV, byteV, byteV]
  have hb : ∀ b : UInt8, UInt8.ofNat ((b.toNat : Int)).toNat = b := fun b => by
    rw [show ((b.toNat : Int)).toNat = b.toNat by rfl]; simp
  unfold bytesOf four
  simp only [List.map_cons, List.map_nil, hb]
theorem ending_eq (n : Nat) (x : BitVec 32) (hn : 1 ≤ n) : crc32c_ending n (x.toNat : Int) = some ⟨(four x).toArray⟩ := by
  obtain ⟨m, rfl⟩ : ∃ m, n = m + 1 := ⟨n - 1, by omega⟩
  simp only [crc32c_ending]
  rw [bytesOf_four]
/-- A string with its sum. -/
def sealed (s : ByteArray) : ByteArray := s ++ ⟨(four (crc (ky s))).toArray⟩
theorem four_size (x : BitVec 32) : (⟨(four x).toArray⟩ : ByteArray).size = 4 := rfl
theorem seal_size (s : ByteArray) : (sealed s).size = s.size + 4 := by
  unfold sealed; rw [ByteArray.size_append]; rfl
theorem seal_eq (n : Nat) (s : ByteArray) (hs : s.size < 1000000000) (hn : s.size + 50 ≤ n) : crc32c_Seal n s = some (sealed s) := by
  obtain ⟨m, rfl⟩ : ∃ m, n = m + 1 := ⟨n - 1, by omega⟩
  simp only [crc32c_Seal]
  rw [sum_eq m s hs (by omega)]
  simp only [Option.bind_some]
  rw [ending_eq m _ (by omega)]
  simp only [Option.bind_some]
  rw [four_size, show decide (s.size + 4 ≤ 9223372036854775807) = true from decide_eq_true (by omega)]
  rfl

/-! ### The reference's -/
/-! ### What was sealed -/
/-- The string that was sealed; none if it was not. -/
def opened (s : ByteArray) : Option ByteArray := if 4 ≤ s.size ∧ sealed (s.extract 0 (s.size - 4)) = s then some (s.extract 0 (s.size - 4)) else none
theorem ext_size (s : ByteArray) (i j : Nat) (h : i ≤ j) (hj : j ≤ s.size) : (s.extract i j).size = j - i := by
  rw [ByteArray.size_extract]; omega
theorem split_at (s : ByteArray) (i : Nat) (h : i ≤ s.size) : s = s.extract 0 i ++ s.extract i s.size := by
  rw [ByteArray.extract_append_extract]
  rw [show min 0 i = 0 by omega, show max i s.size = s.size by omega, ByteArray.extract_zero_size]
theorem app_inj {a b c : ByteArray} (h : a ++ b = a ++ c) : b = c := by
  have := congrArg ky h
  simp only [ky, ByteArray.data_append, Array.toList_append] at this
  exact ky_inj (List.append_cancel_left this)
theorem open_eq (n : Nat) (s : ByteArray) (hs : s.size < 1000000000) (hn : s.size + 60 ≤ n) : crc32c_Open n s = some (match opened s with | some t => (t, 0) | none => (bE, if s.size < 4 then 11 else 13)) := by
  obtain ⟨m, rfl⟩ : ∃ m, n = m + 1 := ⟨n - 1, by omega⟩
  simp only [crc32c_Open, opened]
  by_cases h4 : s.size < 4
  · rw [show decide ((s.size : Int) < 4) = true from decide_eq_true (by omega)]
    simp only [cond_true]
    rw [if_neg (by omega), if_pos h4]
  · have e4 : IntKind.wrap .i64 ((s.size : Int) - 4) = ((s.size - 4 : Nat) : Int) := by rw [wr _ (by omega) (by omega)]; omega
    rw [e4, toNat_c, show decide ((s.size : Int) < 4) = false from decide_eq_false (by omega)]
    have hx : (s.extract 0 (s.size - 4)).size = s.size - 4 := by rw [ext_size s 0 _ (by omega) (by omega)]; omega
    rw [hx, dec3z _ _ (by omega),
      dec3 _ _ _ (by omega) (by omega)]
    simp only [cond_true, cond_false]
    rw [sum_eq m _ (by omega) (by omega)]
    simp only [Option.bind_some]
    rw [ending_eq m _ (by omega)]
    simp only [Option.bind_some]
    rw [sNe_eq]
    have hsp := split_at s (s.size - 4) (by omega)
    have hiff : (s.extract (s.size - 4) s.size = (⟨(four (crc (ky (s.extract 0 (s.size - 4))))).toArray⟩ : ByteArray)) ↔ (4 ≤ s.size ∧ sealed (s.extract 0 (s.size - 4)) = s) := by
      constructor
      · intro h
        refine ⟨by omega, ?_⟩
        unfold sealed; rw [← h]; exact hsp.symm
      · rintro ⟨_, h⟩
        unfold sealed at h
        exact (app_inj (h.trans hsp)).symm
    by_cases h : s.extract (s.size - 4) s.size = (⟨(four (crc (ky (s.extract 0 (s.size - 4))))).toArray⟩ : ByteArray)
    · rw [if_pos (hiff.1 h)]; simp [h]
    · rw [if_neg (fun hh => h (hiff.2 hh)), if_neg h4]; simp [h]
end Go.Proofs.Ytkkinfbipndfdaa
