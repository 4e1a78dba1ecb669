/- Plain laws, 0: strings, numbers. -/
import Derived.Test.YtkignmhjbjgkoaaGreatFn
import Derived.Sort.Walk0
import Derived.Laws.Strings
set_option linter.unusedVariables false
set_option linter.unusedSimpArgs false
namespace Go.Proofs.YtkignmhjbjgkoaaGreat
open Go Go.AM

/-! ### Strings -/
abbrev ky (s : ByteArray) : List UInt8 := s.data.toList
theorem ky_inj {a b : ByteArray} (h : ky a = ky b) : a = b := by
  cases a; cases b; simp only [ky] at h; rw [Array.ext' h]
theorem sEq_eq (a b : ByteArray) : sEq a b = decide (a = b) := by
  unfold sEq
  rw [ByteArray.toList_eq, ByteArray.toList_eq, Bool.eq_iff_iff, beq_iff_eq, decide_eq_true_eq]
  exact ⟨ky_inj, fun h => by rw [h]⟩
theorem sNe_eq (a b : ByteArray) : sNe a b = !decide (a = b) := by rw [← sEq_eq]; rfl
theorem sLt_eq (a b : ByteArray) : sLt a b = decide (ky a < ky b) := by
  unfold sLt; rw [bytesLess_eq, ByteArray.toList_eq, ByteArray.toList_eq]
theorem sLe_eq (a b : ByteArray) : sLe a b = (decide (ky a < ky b) || decide (a = b)) := by
  rw [← sLt_eq, ← sEq_eq]; rfl
theorem sGt_eq (a b : ByteArray) : sGt a b = !(decide (ky a < ky b) || decide (a = b)) := by
  rw [← sLe_eq]; rfl
theorem sGe_eq (a b : ByteArray) : sGe a b = !decide (ky a < ky b) := by
  rw [← sLt_eq]; rfl
theorem beqS (a b : ByteArray) : (a == b) = decide (a = b) := by
  cases a with | mk da => cases b with | mk db =>
  have : ((⟨da⟩ : ByteArray) == ⟨db⟩) = (da == db) := rfl
  rw [this, Bool.eq_iff_iff, beq_iff_eq, decide_eq_true_eq]
  exact ⟨fun h => by rw [h], fun h => by cases h; rfl⟩
theorem ky_lt_irrefl (a : ByteArray) : ¬ ky a < ky a := List.lt_irrefl _
theorem ky_lt_trans {a b c : ByteArray} (h : ky a < ky b) (h' : ky b < ky c) : ky a < ky c := List.lt_trans h h'
theorem ky_lt_asymm {a b : ByteArray} (h : ky a < ky b) : ¬ ky b < ky a := fun h' => ky_lt_irrefl a (ky_lt_trans h h')
theorem ky_tri (a b : ByteArray) : ky a < ky b ∨ a = b ∨ ky b < ky a := by
  by_cases h : ky a < ky b
  · exact .inl h
  · by_cases h' : ky b < ky a
    · exact .inr (.inr h')
    · exact .inr (.inl (ky_inj (List.le_antisymm (List.not_lt.1 h') (List.not_lt.1 h))))
theorem gt_iff {a b : ByteArray} : sGt a b = true ↔ ky b < ky a := by
  rw [sGt_eq]
  simp only [Bool.not_eq_true', Bool.or_eq_false_iff, decide_eq_false_iff_not]
  constructor
  · rintro ⟨h1, h2⟩; rcases ky_tri a b with h | h | h
    · exact absurd h h1
    · exact absurd h h2
    · exact h
  · intro h; exact ⟨ky_lt_asymm h, fun e => by subst e; exact ky_lt_irrefl _ h⟩

/-! ### Numbers -/
theorem wr (z : Int) (h1 : -9223372036854775808 ≤ z) (h2 : z < 9223372036854775808) : IntKind.wrap .i64 z = z := by
  simp only [IntKind.wrap, IntKind.bits, IntKind.signed, Bool.true_and, ge_iff_le, decide_eq_true_eq]
  omega
theorem wr1 (i : Nat) (h : i < 9223372036854775807) : IntKind.wrap .i64 ((i : Int) + 1) = ((i + 1 : Nat) : Int) := by
  rw [wr _ (by omega) (by omega)]; omega
theorem wrp (i : Nat) (h : i < 9223372036854775807) : IntKind.wrap .i64 (((i + 1 : Nat) : Int) - 1) = (i : Int) := by
  rw [wr _ (by omega) (by omega)]; omega
theorem dec_in (i n : Nat) (h : i < n) : (decide ((0 : Int) ≤ (i : Int)) && decide ((i : Int) < (n : Int))) = true := by
  simp; omega
theorem dec_lt (i n : Nat) : decide ((i : Int) < (n : Int)) = decide (i < n) := by
  rw [Bool.eq_iff_iff, decide_eq_true_eq, decide_eq_true_eq]; omega
theorem toNat_c (i : Nat) : (i : Int).toNat = i := rfl
theorem app_ok {n b : Nat} (h : n * b + b ≤ 140737488355328) (hb : 1 ≤ b) : (true && (decide ((n + 1) * b ≤ 140737488355328) && decide (n + 1 ≤ 9223372036854775807))) = true := by
  have h0 : (n + 1) * b = n * b + b := by rw [Nat.add_mul, Nat.one_mul]
  have h1 : n * 1 ≤ n * b := Nat.mul_le_mul_left n hb
  simp only [Bool.true_and, Bool.and_eq_true, decide_eq_true_eq]
  omega

end Go.Proofs.YtkignmhjbjgkoaaGreat

/- Plain laws, 1: names, directories. -/
set_option linter.unusedVariables false
set_option linter.unusedSimpArgs false
namespace Go.Proofs.YtkignmhjbjgkoaaGreat
open Go Go.AM
/-! ### Names -/
def okB (c : Int) : Bool := (decide (c ≥ 65) && decide (c ≤ 90)) || (decide (c ≥ 97) && decide (c ≤ 122)) || (decide (c ≥ 48) && decide (c ≤ 57)) || c == 46 || c == 95 || c == 45
def allB (s : ByteArray) (i : Nat) : Nat → Bool
  | 0 => true
  | k + 1 => okB (bt s i) && allB s (i + 1) k
def isNm (s : ByteArray) : Bool := decide (0 < s.size) && decide (s.size ≤ 60) && allB s 0 s.size

theorem isName_l0 (n : Nat) (s : ByteArray) : ∀ (k i m : Nat), i + k = s.size → s.size ≤ 60 → k < m → disk_isName_l0 n s m (s.size : Int) (i : Int) = some (allB s i k)
  | k, i, 0, _, _, h => by omega
  | 0, i, m + 1, h, h1, _ => by
    have : ¬ ((i : Int) < (s.size : Int)) := by omega
    simp [disk_isName_l0, this, allB]
  | k + 1, i, m + 1, h, h1, h2 => by
    have ih := isName_l0 n s k (i + 1) m (by omega) h1 (by omega)
    have hw := wr1 i (by omega)
    have hin := dec_in i s.size (by omega)
    have hlt : (i : Int) < (s.size : Int) := by omega
    have h0 : (0 : Int) ≤ (i : Int) := by omega
    simp only [disk_isName_l0, disk_isName_s1, hlt, h0, decide_true, Bool.and_true, cond_true, toNat_c, hw, ih, allB, okB]
    have hc : ∃ c, bt s i = c := ⟨_, rfl⟩
    obtain ⟨c, hc⟩ := hc
    simp only [hc]
    by_cases a1 : c ≥ 65 <;> by_cases a2 : c ≤ 90 <;> by_cases a3 : c ≥ 97 <;> by_cases a4 : c ≤ 122 <;> by_cases a5 : c ≥ 48 <;> by_cases a6 : c ≤ 57 <;> first | (exfalso; omega) | skip
    all_goals (simp only [a1, a2, a3, a4, a5, a6, decide_true, decide_false, cond_true, cond_false, Bool.true_and, Bool.false_and, Bool.and_false, Bool.or_false, Bool.false_or, Bool.true_or, Bool.or_true, Bool.not_true, Bool.not_false, show (c < 48) = ¬ (c ≥ 48) by simp, show (c > 57) = ¬ (c ≤ 57) by simp, not_true_eq_false, not_false_eq_true])
    all_goals first | rfl | skip
    all_goals (cases b1 : (c == 46) <;> cases b2 : (c == 95) <;> cases b3 : (c == 45) <;> simp only [bne, b1, b2, b3, cond_true, cond_false, Bool.not_true, Bool.not_false, Bool.or_true, Bool.or_false, Bool.true_and, Bool.false_and, Bool.false_or, Bool.true_or])

theorem isName_eq (n : Nat) (s : ByteArray) (h : 63 ≤ n) : disk_isName n s = some (isNm s) := by
  obtain ⟨m, rfl⟩ : ∃ m, n = m + 1 := ⟨n - 1, by omega⟩
  simp only [disk_isName, isNm]
  by_cases h1 : s.size < 1
  · have : (s.size : Int) < 1 := by omega
    have h2 : ¬ 0 < s.size := by omega
    simp only [this, h2, decide_true, decide_false, cond_true, Bool.false_and]
  · have : ¬ (s.size : Int) < 1 := by omega
    have h2 : 0 < s.size := by omega
    by_cases h3 : s.size ≤ 60
    · have h4 : ¬ (s.size : Int) > 60 := by omega
      simp only [this, h2, h3, h4, decide_true, decide_false, cond_false, Bool.true_and]
      have := isName_l0 m s s.size 0 m (by omega) h3 (by omega)
      exact this
    · have h4 : (s.size : Int) > 60 := by omega
      simp only [this, h2, h3, h4, decide_true, decide_false, cond_false, cond_true, Bool.true_and, Bool.false_and]

/-! ### Directories as lists -/
abbrev Dir := List GDirEntry
/-- The inode of a name. -/
def lkE (name : ByteArray) : Dir → Option Int
  | [] => none
  | e :: l => bif decide (e.Name = name) then some e.Inode else lkE name l
/-- The index of a name. -/
def ixE (name : ByteArray) : Dir → Option Nat
  | [] => none
  | e :: l => bif decide (e.Name = name) then some 0 else (ixE name l).map (· + 1)
def wo (l : Dir) (name : ByteArray) : Dir := l.filter fun e => !decide (e.Name = name)
def wi (x : GDirEntry) : Dir → Dir
  | [] => [x]
  | e :: l => bif sGt e.Name x.Name then x :: e :: l else e :: wi x l
theorem ix_lk (name : ByteArray) : ∀ l : Dir, (ixE name l).map (fun i => (l.getD i dGDirEntry).Inode) = lkE name l ∧ ∀ i, ixE name l = some i → i < l.length
  | [] => ⟨rfl, fun i h => by cases h⟩
  | e :: l => by
    obtain ⟨h1, h2⟩ := ix_lk name l
    simp only [ixE, lkE]
    cases decide (e.Name = name) with
    | true => exact ⟨rfl, fun i h => by cases h; simp⟩
    | false =>
      simp only [cond_false]
      refine ⟨?_, fun i h => ?_⟩
      · rw [← h1]; cases ixE name l <;> simp [List.getD]
      · cases hx : ixE name l with
        | none => rw [hx] at h; cases h
        | some j => rw [hx] at h; cases h; have := h2 j hx; simp; omega

theorem getD_drop {α : Type} {l : List α} {i : Nat} {d : α} (h : i < l.length) : l.drop i = l.getD i d :: l.drop (i + 1) := by
  rw [List.drop_eq_getElem_cons h]; simp [List.getD, List.getElem?_eq_getElem h]

end Go.Proofs.YtkignmhjbjgkoaaGreat
