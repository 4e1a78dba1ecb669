/- Plain laws of the manifest, 0: names. -/
import Derived.Test.YtomalcfghdaghaaGreatDoorSp0
set_option linter.unusedVariables false
set_option linter.unusedSimpArgs false
namespace Go.Proofs.YtomalcfghdaghaaGreatDoor
open Go Go.AM
/-! ### Names -/
def okB (c : Int) : Bool := (decide (c ≥ 65) && decide (c ≤ 90)) || (decide (c ≥ 97) && decide (c ≤ 122)) || (decide (c ≥ 48) && decide (c ≤ 57)) || c == 46 || c == 95 || c == 45
def allB (s : ByteArray) (i : Nat) : Nat → Bool
  | 0 => true
  | k + 1 => okB (bt s i) && allB s (i + 1) k
def isNm (s : ByteArray) : Bool := decide (0 < s.size) && decide (s.size ≤ 60) && allB s 0 s.size

theorem isName_l0 (n : Nat) (s : ByteArray) : ∀ (k i m : Nat), i + k = s.size → s.size ≤ 60 → k < m → manifest_isName_l0 n s m (s.size : Int) (i : Int) = some (allB s i k)
  | k, i, 0, _, _, h => by omega
  | 0, i, m + 1, h, h1, _ => by
    have : ¬ ((i : Int) < (s.size : Int)) := by omega
    simp [manifest_isName_l0, this, allB]
  | k + 1, i, m + 1, h, h1, h2 => by
    have ih := isName_l0 n s k (i + 1) m (by omega) h1 (by omega)
    have hw := wr1 i (by omega)
    have hin := dec_in i s.size (by omega)
    have hlt : (i : Int) < (s.size : Int) := by omega
    have h0 : (0 : Int) ≤ (i : Int) := by omega
    simp only [manifest_isName_l0, manifest_isName_s1, hlt, h0, decide_true, Bool.and_true, cond_true, toNat_c, hw, ih, allB, okB]
    have hc : ∃ c, bt s i = c := ⟨_, rfl⟩
    obtain ⟨c, hc⟩ := hc
    simp only [hc]
    by_cases a1 : c ≥ 65 <;> by_cases a2 : c ≤ 90 <;> by_cases a3 : c ≥ 97 <;> by_cases a4 : c ≤ 122 <;> by_cases a5 : c ≥ 48 <;> by_cases a6 : c ≤ 57 <;> first | (exfalso; omega) | skip
    all_goals (simp only [a1, a2, a3, a4, a5, a6, decide_true, decide_false, cond_true, cond_false, Bool.true_and, Bool.false_and, Bool.and_false, Bool.or_false, Bool.false_or, Bool.true_or, Bool.or_true, Bool.not_true, Bool.not_false, show (c < 48) = ¬ (c ≥ 48) by simp, show (c > 57) = ¬ (c ≤ 57) by simp, not_true_eq_false, not_false_eq_true])
    all_goals first | rfl | skip
    all_goals (cases b1 : (c == 46) <;> cases b2 : (c == 95) <;> cases b3 : (c == 45) <;> simp only [bne, b1, b2, b3, cond_true, cond_false, Bool.not_true, Bool.not_false, Bool.or_true, Bool.or_false, Bool.true_and, Bool.false_and, Bool.false_or, Bool.true_or])

def mfB : ByteArray := ⟨#[77, 65, 78, 73, 70, 69, 83, 84]⟩
def mfnB : ByteArray := ⟨#[77, 65, 78, 73, 70, 69, 83, 84, 46, 110, 101, 119]⟩
/-- A name that a manifest may bear. -/
def nmOk (s : ByteArray) : Bool := isNm s && !decide (s = mfB) && !decide (s = mfnB)
theorem isName_eq (n : Nat) (s : ByteArray) (h : 63 ≤ n) : manifest_isName n s = some (nmOk s) := by
  obtain ⟨m, rfl⟩ : ∃ m, n = m + 1 := ⟨n - 1, by omega⟩
  simp only [manifest_isName, nmOk, isNm, sEq_eq]
  by_cases h1 : s.size < 1
  · have : (s.size : Int) < 1 := by omega
    have h2 : ¬ 0 < s.size := by omega
    simp only [this, h2, decide_true, decide_false, cond_true, Bool.false_and]
  · have : ¬ (s.size : Int) < 1 := by omega
    have h2 : 0 < s.size := by omega
    by_cases h3 : s.size ≤ 60
    · have h4 : ¬ (s.size : Int) > 60 := by omega
      simp only [this, h2, h3, h4, decide_true, decide_false, cond_false, Bool.true_and]
      have := isName_l0 m s s.size 0 m (by omega) h3 (by omega)
      rw [show (0 : Int) = ((0 : Nat) : Int) from rfl, this]
      change (bif decide (s = mfB) then some false else bif decide (s = mfnB) then some false else _) = _
      cases decide (s = mfB) <;> cases decide (s = mfnB) <;> cases allB s 0 s.size <;> rfl
    · have h4 : (s.size : Int) > 60 := by omega
      simp only [this, h2, h3, h4, decide_true, decide_false, cond_false, cond_true, Bool.true_and, Bool.false_and]

end Go.Proofs.YtomalcfghdaghaaGreatDoor
