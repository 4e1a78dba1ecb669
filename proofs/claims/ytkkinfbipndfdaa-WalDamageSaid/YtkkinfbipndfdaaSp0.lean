/- Plain laws, 0: strings, numbers. -/
import Derived.Test.YtkkinfbipndfdaaFn
import Derived.Sort.Walk0
import Derived.Laws.Strings
set_option linter.unusedVariables false
set_option linter.unusedSimpArgs false
namespace Go.Proofs.Ytkkinfbipndfdaa
open Go Go.AM

/-! ### Strings -/
abbrev ky (s : ByteArray) : List UInt8 := s.data.toList
theorem ky_inj {a b : ByteArray} (h : ky a = ky b) : a = b := by
  cases a; cases b; simp only [ky] at h; rw [Array.ext' h]
theorem sEq_eq (a b : ByteArray) : sEq a b = decide (a = b) := by
  unfold sEq
  rw [ByteArray.toList_eq, ByteArray.toList_eq, Bool.eq_iff_iff, beq_iff_eq, decide_eq_true_eq]
  exact ⟨ky_inj, fun h => by rw [h]⟩
theorem sNe_eq (a b : ByteArray) : sNe a b = !decide (a = b) := by rw [← sEq_eq]; rfl
theorem sLt_eq (a b : ByteArray) : sLt a b = decide (ky a < ky b) := by
  unfold sLt; rw [bytesLess_eq, ByteArray.toList_eq, ByteArray.toList_eq]
theorem sLe_eq (a b : ByteArray) : sLe a b = (decide (ky a < ky b) || decide (a = b)) := by
  rw [← sLt_eq, ← sEq_eq]; rfl
theorem sGt_eq (a b : ByteArray) : sGt a b = !(decide (ky a < ky b) || decide (a = b)) := by
  rw [← sLe_eq]; rfl
theorem sGe_eq (a b : ByteArray) : sGe a b = !decide (ky a < ky b) := by
  rw [← sLt_eq]; rfl
theorem beqS (a b : ByteArray) : (a == b) = decide (a = b) := by
  cases a with | mk da => cases b with | mk db =>
  have : ((⟨da⟩ : ByteArray) == ⟨db⟩) = (da == db) := rfl
  rw [this, Bool.eq_iff_iff, beq_iff_eq, decide_eq_true_eq]
  exact ⟨fun h => by rw [h], fun h => by cases h; rfl⟩
theorem ky_lt_irrefl (a : ByteArray) : ¬ ky a < ky a := List.lt_irrefl _
theorem ky_lt_trans {a b c : ByteArray} (h : ky a < ky b) (h' : ky b < ky c) : ky a < ky c := List.lt_trans h h'
theorem ky_lt_asymm {a b : ByteArray} (h : ky a < ky b) : ¬ ky b < ky a := fun h' => ky_lt_irrefl a (ky_lt_trans h h')
theorem ky_tri (a b : ByteArray) : ky a < ky b ∨ a = b ∨ ky b < ky a := by
  by_cases h : ky a < ky b
  · exact .inl h
  · by_cases h' : ky b < ky a
    · exact .inr (.inr h')
    · exact .inr (.inl (ky_inj (List.le_antisymm (List.not_lt.1 h') (List.not_lt.1 h))))
theorem gt_iff {a b : ByteArray} : sGt a b = true ↔ ky b < ky a := by
  rw [sGt_eq]
  simp only [Bool.not_eq_true', Bool.or_eq_false_iff, decide_eq_false_iff_not]
  constructor
  · rintro ⟨h1, h2⟩; rcases ky_tri a b with h | h | h
    · exact absurd h h1
    · exact absurd h h2
    · exact h
  · intro h; exact ⟨ky_lt_asymm h, fun e => by subst e; exact ky_lt_irrefl _ h⟩

/-! ### Numbers -/
theorem wr (z : Int) (h1 : -9223372036854775808 ≤ z) (h2 : z < 9223372036854775808) : IntKind.wrap .i64 z = z := by
  simp only [IntKind.wrap, IntKind.bits, IntKind.signed, Bool.true_and, ge_iff_le, decide_eq_true_eq]
  omega
theorem wr1 (i : Nat) (h : i < 9223372036854775807) : IntKind.wrap .i64 ((i : Int) + 1) = ((i + 1 : Nat) : Int) := by
  rw [wr _ (by omega) (by omega)]; omega
theorem wrp (i : Nat) (h : i < 9223372036854775807) : IntKind.wrap .i64 (((i + 1 : Nat) : Int) - 1) = (i : Int) := by
  rw [wr _ (by omega) (by omega)]; omega
theorem dec_in (i n : Nat) (h : i < n) : (decide ((0 : Int) ≤ (i : Int)) && decide ((i : Int) < (n : Int))) = true := by
  simp; omega
theorem dec_lt (i n : Nat) : decide ((i : Int) < (n : Int)) = decide (i < n) := by
  rw [Bool.eq_iff_iff, decide_eq_true_eq, decide_eq_true_eq]; omega
theorem toNat_c (i : Nat) : (i : Int).toNat = i := rfl
theorem app_ok {n b : Nat} (h : n * b + b ≤ 140737488355328) (hb : 1 ≤ b) : (true && (decide ((n + 1) * b ≤ 140737488355328) && decide (n + 1 ≤ 9223372036854775807))) = true := by
  have h0 : (n + 1) * b = n * b + b := by rw [Nat.add_mul, Nat.one_mul]
  have h1 : n * 1 ≤ n * b := Nat.mul_le_mul_left n hb
  simp only [Bool.true_and, Bool.and_eq_true, decide_eq_true_eq]
  omega

end Go.Proofs.Ytkkinfbipndfdaa
