/- Plain laws, 7: sizes; DiskReads. -/
import Derived.Test.YtkignmhjbjgkoaaGreatSp6
import Derived.Test.YtkignmhjbjgkoaaGreatWf
set_option linter.unusedVariables false
set_option linter.unusedSimpArgs false
namespace Go.Proofs.YtkignmhjbjgkoaaGreat
open Go Go.AM

theorem great_l4 (n : Nat) (d : GDisk) (h1 : d.Pending.length ≤ 1000000000) : ∀ (k i m : Nat) (s : Int), i + k = d.Pending.length → k < m → ∃ b, lookoutref22_Great_l4 n d m s (i : Int) = some b ∧ (b = false → ∀ x ∈ d.Pending.drop i, x.Name.size ≤ 100 ∧ x.To.size ≤ 100)
  | k, i, 0, _, _, h => by omega
  | 0, i, m + 1, s, h, _ => by
    have : ¬ ((i : Int) < (d.Pending.length : Int)) := by omega
    rw [List.drop_eq_nil_of_le (by omega)]
    exact ⟨decide (s > 60000), by simp only [lookoutref22_Great_l4, lookoutref22_Great_s5, this, decide_false, cond_false], fun _ x hx => by simp at hx⟩
  | k + 1, i, m + 1, s, h, h2 => by
    rw [getD_drop (d := dGDirOp) (show i < d.Pending.length by omega)]
    obtain ⟨b, e1, e2⟩ := great_l4 n d h1 k (i + 1) m s (by omega) (by omega)
    obtain ⟨x, hx⟩ : ∃ x, d.Pending.getD i dGDirOp = x := ⟨_, rfl⟩
    simp only [lookoutref22_Great_l4, show (i : Int) < (d.Pending.length : Int) by omega, show (0 : Int) ≤ (i : Int) by omega, decide_true, Bool.and_true, cond_true, toNat_c, wr1 i (by omega), hx, e1]
    by_cases c1 : (x.Name.size : Int) > 100
    · exact ⟨true, by simp only [c1, decide_true, cond_true], fun h => by cases h⟩
    · by_cases c2 : (x.To.size : Int) > 100
      · exact ⟨true, by simp only [c1, c2, decide_true, decide_false, cond_true, cond_false], fun h => by cases h⟩
      · refine ⟨b, by simp only [c1, c2, decide_false, cond_false], fun h y hy => ?_⟩
        rcases List.mem_cons.1 hy with rfl | hy
        · omega
        · exact e2 h y hy
theorem great_l2 (n : Nat) (d : GDisk) (h1 : d.Pending.length < n) (h1' : d.Durable.length ≤ 1000000000) (hn : n ≤ 1000000000) : ∀ (k i m : Nat) (s : Int), i + k = d.Durable.length → k < m → ∃ b, lookoutref22_Great_l2 n d m s (i : Int) = some b ∧ (b = false → (∀ x ∈ d.Durable.drop i, x.Name.size ≤ 100) ∧ ∀ x ∈ d.Pending, x.Name.size ≤ 100 ∧ x.To.size ≤ 100)
  | k, i, 0, _, _, h => by omega
  | 0, i, m + 1, s, h, _ => by
    have : ¬ ((i : Int) < (d.Durable.length : Int)) := by omega
    rw [List.drop_eq_nil_of_le (by omega)]
    obtain ⟨b, e1, e2⟩ := great_l4 n d (by omega) d.Pending.length 0 n s (by omega) h1
    refine ⟨b, by simp only [lookoutref22_Great_l2, lookoutref22_Great_s3, this, decide_false, cond_false]; exact e1, fun h => ⟨fun x hx => by simp at hx, ?_⟩⟩
    simpa using e2 h
  | k + 1, i, m + 1, s, h, h2 => by
    rw [getD_drop (d := dGDirEntry) (show i < d.Durable.length by omega)]
    obtain ⟨b, e1, e2⟩ := great_l2 n d h1 h1' hn k (i + 1) m s (by omega) (by omega)
    obtain ⟨x, hx⟩ : ∃ x, d.Durable.getD i dGDirEntry = x := ⟨_, rfl⟩
    simp only [lookoutref22_Great_l2, show (i : Int) < (d.Durable.length : Int) by omega, show (0 : Int) ≤ (i : Int) by omega, decide_true, Bool.and_true, cond_true, toNat_c, wr1 i (by omega), hx, e1]
    by_cases c1 : (x.Name.size : Int) > 100
    · exact ⟨true, by simp only [c1, decide_true, cond_true], fun h => by cases h⟩
    · refine ⟨b, by simp only [c1, decide_false, cond_false], fun h => ⟨fun y hy => ?_, (e2 h).2⟩⟩
      rcases List.mem_cons.1 hy with rfl | hy
      · omega
      · exact (e2 h).1 y hy
theorem great_l0 (n : Nat) (d : GDisk) (h1 : d.Pending.length < n) (h1' : d.Durable.length < n) (hn : n ≤ 1000000000) (hI : d.Inodes.length ≤ 1000000000) : ∀ (k i m : Nat) (s : Int), i + k = d.Inodes.length → k < m → ∃ b, lookoutref22_Great_l0 n d m s (i : Int) = some b ∧ (b = false → (∀ x ∈ d.Durable, x.Name.size ≤ 100) ∧ ∀ x ∈ d.Pending, x.Name.size ≤ 100 ∧ x.To.size ≤ 100)
  | k, i, 0, _, _, h => by omega
  | 0, i, m + 1, s, h, _ => by
    have : ¬ ((i : Int) < (d.Inodes.length : Int)) := by omega
    obtain ⟨b, e1, e2⟩ := great_l2 n d h1 (by omega) hn d.Durable.length 0 n s (by omega) h1'
    refine ⟨b, by simp only [lookoutref22_Great_l0, lookoutref22_Great_s1, this, decide_false, cond_false]; exact e1, fun h => ?_⟩
    simpa using e2 h
  | k + 1, i, m + 1, s, h, h2 => by
    obtain ⟨x, hx⟩ : ∃ x, d.Inodes.getD i dGInode = x := ⟨_, rfl⟩
    obtain ⟨b, e1, e2⟩ := great_l0 n d h1 h1' hn hI k (i + 1) m (IntKind.wrap .i64 (s + (x.Data.size : Int))) (by omega) (by omega)
    simp only [lookoutref22_Great_l0, show (i : Int) < (d.Inodes.length : Int) by omega, show (0 : Int) ≤ (i : Int) by omega, decide_true, Bool.and_true, cond_true, toNat_c, wr1 i (by omega), hx, e1]
    by_cases c1 : (x.Data.size : Int) > 20000
    · exact ⟨true, by simp only [c1, decide_true, cond_true], fun h => by cases h⟩
    · exact ⟨b, by simp only [c1, decide_false, cond_false], e2⟩
theorem great_eq (n : Nat) (d : GDisk) (hn : 50 ≤ n) (hn' : n ≤ 1000000000) : ∃ b, lookoutref22_Great n d = some b ∧ (b = false → Bd 200 d ∧ d.Inodes.length ≤ 40 ∧ d.Durable.length ≤ 40 ∧ d.Pending.length ≤ 40) := by
  obtain ⟨m, rfl⟩ : ∃ m, n = m + 1 := ⟨n - 1, by omega⟩
  by_cases c1 : (d.Inodes.length : Int) > 40
  · exact ⟨true, by simp only [lookoutref22_Great, c1, decide_true, cond_true], fun h => by cases h⟩
  · by_cases c2 : (d.Durable.length : Int) > 40
    · exact ⟨true, by simp only [lookoutref22_Great, c1, c2, decide_true, decide_false, cond_true, cond_false], fun h => by cases h⟩
    · by_cases c3 : (d.Pending.length : Int) > 40
      · exact ⟨true, by simp only [lookoutref22_Great, c1, c2, c3, decide_true, decide_false, cond_true, cond_false], fun h => by cases h⟩
      · obtain ⟨b, e1, e2⟩ := great_l0 m d (by omega) (by omega) (by omega) (by omega) d.Inodes.length 0 m 0 (by omega) (by omega)
        refine ⟨b, by simp only [lookoutref22_Great, c1, c2, c3, decide_false, cond_false]; exact e1, fun h => ⟨⟨fun e he => ?_, fun x hx => ?_, by omega, by omega, by omega, by omega⟩, by omega, by omega, by omega⟩⟩
        · have := (e2 h).1 e he; omega
        · have := (e2 h).2 x hx; omega

theorem lsF_len {d : GDisk} (hD : d.Durable.length ≤ 1000000000) : (lsF d).length ≤ 1000 := by
  unfold lsF
  cases hv : valid d with
  | false => simp
  | true => have := cur_len hv hD; simpa using this

end Go.Proofs.YtkignmhjbjgkoaaGreat
