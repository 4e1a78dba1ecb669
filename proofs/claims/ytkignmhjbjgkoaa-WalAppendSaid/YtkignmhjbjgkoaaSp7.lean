import Derived.Test.YtkignmhjbjgkoaaSp5
import Derived.Test.YtkignmhjbjgkoaaWf
/- Plain laws, 6: a loss of power; disks held against each other. -/
set_option linter.unusedVariables false
set_option linter.unusedSimpArgs false
namespace Go.Proofs.Ytkignmhjbjgkoaa
open Go Go.AM

/-- A pick. -/
def pk (picks : List Int) (i : Nat) (n : Int) : Int := if i < picks.length then (if (picks.getD i 0).tmod n < 0 then (picks.getD i 0).tmod n + n else (picks.getD i 0).tmod n) else 0
theorem pk_in (picks : List Int) (i : Nat) (n : Int) (hn : 0 < n) : 0 ≤ pk picks i n ∧ pk picks i n < n := by
  have h1 := Int.tmod_lt_of_pos (picks.getD i 0) hn
  have h2 := Int.lt_tmod_of_pos (picks.getD i 0) hn
  unfold pk
  split
  · split <;> omega
  · omega
theorem aft_take (N : Int) : ∀ (ops : List GDirOp) (l : Dir) (c : Nat), (aft N ops l).2 = true → (aft N (ops.take c) l).2 = true
  | [], l, c, _ => by simp [aft]
  | x :: ops, l, 0, _ => by simp [aft]
  | x :: ops, l, c + 1, h => by
    simp only [aft, List.take_succ_cons] at h ⊢
    cases ha : (ap N l x).2 with
    | false => rw [ha] at h; cases h
    | true => rw [ha] at h; exact aft_take N ops _ c h

/-! ### What is left of a file -/
def kept (d : GDisk) (picks : List Int) (l : Dir) (i : Nat) : Int :=
  (d.Inodes.getD (l.getD i dGDirEntry).Inode.toNat dGInode).Synced + pk picks (i + 1) (((d.Inodes.getD (l.getD i dGDirEntry).Inode.toNat dGInode).Data.size : Int) - (d.Inodes.getD (l.getD i dGDirEntry).Inode.toNat dGInode).Synced + 1)
def crI (d : GDisk) (picks : List Int) (l : Dir) (i : Nat) : Nat → List GInode
  | 0 => []
  | k + 1 => ⟨ByteArray.extract (d.Inodes.getD (l.getD i dGDirEntry).Inode.toNat dGInode).Data 0 (kept d picks l i).toNat, kept d picks l i⟩ :: crI d picks l (i + 1) k
def crD (l : Dir) (i : Nat) : Nat → Dir
  | 0 => []
  | k + 1 => ⟨(l.getD i dGDirEntry).Name, (i : Int)⟩ :: crD l (i + 1) k
def crCount (d : GDisk) (picks : List Int) : Nat := (pk picks 0 ((d.Pending.length : Int) + 1)).toNat
def crDir (d : GDisk) (picks : List Int) : Dir := (aft (d.Inodes.length : Int) (d.Pending.take (crCount d picks)) d.Durable).1
def crF (d : GDisk) (picks : List Int) : GDisk := bif valid d then ⟨crI d picks (crDir d picks) 0 (crDir d picks).length, crD (crDir d picks) 0 (crDir d picks).length, [], -1⟩ else ⟨[], [], [], 0⟩

theorem inode_ok {d : GDisk} (hO : d.Inodes.all okI = true) {i : Int} (h0 : 0 ≤ i) (h1 : i < d.Inodes.length) : okI (d.Inodes.getD i.toNat dGInode) = true := by
  have hi : i.toNat < d.Inodes.length := by omega
  have hm : d.Inodes.getD i.toNat dGInode ∈ d.Inodes := by
    have := List.drop_subset i.toNat d.Inodes; rw [getD_drop (d := dGInode) hi] at this; exact this (by simp)
  exact List.all_eq_true.1 hO _ hm
theorem okI_spec {x : GInode} (h : okI x = true) : x.Data.size ≤ 1048576 ∧ 0 ≤ x.Synced ∧ x.Synced ≤ (x.Data.size : Int) := by simpa [okI] using h
theorem kept_in {d : GDisk} {picks : List Int} {l : Dir} {i : Nat} (h : okI (d.Inodes.getD (l.getD i dGDirEntry).Inode.toNat dGInode) = true) :
    (d.Inodes.getD (l.getD i dGDirEntry).Inode.toNat dGInode).Synced ≤ kept d picks l i ∧ kept d picks l i ≤ ((d.Inodes.getD (l.getD i dGDirEntry).Inode.toNat dGInode).Data.size : Int) := by
  obtain ⟨h1, h2, h3⟩ := okI_spec h
  have := pk_in picks (i + 1) (((d.Inodes.getD (l.getD i dGDirEntry).Inode.toNat dGInode).Data.size : Int) - (d.Inodes.getD (l.getD i dGDirEntry).Inode.toNat dGInode).Synced + 1) (by omega)
  unfold kept; omega

theorem getD_mem {l : Dir} {i : Nat} (h : i < l.length) : l.getD i dGDirEntry ∈ l := by
  have := List.drop_subset i l; rw [getD_drop (d := dGDirEntry) h] at this; exact this (by simp)
theorem getD_map_name {l : Dir} {i : Nat} (h : i < l.length) : (l.map (·.Name)).getD i bE = (l.getD i dGDirEntry).Name := by
  simp [List.getD, List.getElem?_eq_getElem h]

theorem count_in (d : GDisk) (picks : List Int) : ((crCount d picks : Nat) : Int) = pk picks 0 ((d.Pending.length : Int) + 1) ∧ crCount d picks ≤ d.Pending.length := by
  have := pk_in picks 0 ((d.Pending.length : Int) + 1) (by omega)
  unfold crCount; omega
theorem crDir_rd {d : GDisk} (picks : List Int) (hv : valid d = true) (hD : d.Durable.length ≤ 1000000000) (n : Nat) (hn : d.Durable.length + 80 ≤ n) : ∃ f t, disk_durable n d = some (d.Inodes.length, true, f, t) ∧ Rd d.Inodes.length f t d.Durable := by
  obtain ⟨h1, h2, h3, h4, h5, h6⟩ := valid_il hv
  obtain ⟨f, t, e1, e2⟩ := durable_eq n d hn hD (by omega)
  rw [h5] at e1
  exact ⟨f, t, e1, e2 h5⟩
/-! ### A disk is the same as itself -/
theorem beqS_refl (a : ByteArray) : (a == a) = true := by rw [beqS]; simp
theorem same_l4 (n : Nat) (d : GDisk) (h1 : d.Pending.length ≤ 1000000000) : ∀ (k i m : Nat), i + k = d.Pending.length → k < m → lookoutref22_Same_l4 n d d m (i : Int) = some true
  | k, i, 0, _, h => by omega
  | 0, i, m + 1, h, _ => by
    have : ¬ ((i : Int) < (d.Pending.length : Int)) := by omega
    simp only [lookoutref22_Same_l4, this, decide_false, cond_false]
  | k + 1, i, m + 1, h, h2 => by
    have ih := same_l4 n d h1 k (i + 1) m (by omega) (by omega)
    simp only [lookoutref22_Same_l4, show (i : Int) < (d.Pending.length : Int) by omega, show (0 : Int) ≤ (i : Int) by omega, decide_true, Bool.and_true, cond_true, toNat_c, wr1 i (by omega), beq_self_eq_true, beqS_refl, Bool.not_true, cond_false, ih]
theorem same_l2 (n : Nat) (d : GDisk) (h1 : d.Pending.length ≤ 1000000000) (h1' : d.Durable.length ≤ 1000000000) (hn : d.Pending.length < n) : ∀ (k i m : Nat), i + k = d.Durable.length → k < m → lookoutref22_Same_l2 n d d m (i : Int) = some true
  | k, i, 0, _, h => by omega
  | 0, i, m + 1, h, _ => by
    have : ¬ ((i : Int) < (d.Durable.length : Int)) := by omega
    simp only [lookoutref22_Same_l2, lookoutref22_Same_s3, this, decide_false, cond_false]
    exact same_l4 n d h1 d.Pending.length 0 n (by omega) hn
  | k + 1, i, m + 1, h, h2 => by
    have ih := same_l2 n d h1 h1' hn k (i + 1) m (by omega) (by omega)
    simp only [lookoutref22_Same_l2, show (i : Int) < (d.Durable.length : Int) by omega, show (0 : Int) ≤ (i : Int) by omega, decide_true, Bool.and_true, cond_true, toNat_c, wr1 i (by omega), beq_self_eq_true, beqS_refl, Bool.not_true, cond_false, ih]
theorem same_l0 (n : Nat) (d : GDisk) (h1 : d.Pending.length ≤ 1000000000) (h1' : d.Durable.length ≤ 1000000000) (h1'' : d.Inodes.length ≤ 1000000000) (hn : d.Pending.length < n) (hn' : d.Durable.length < n) : ∀ (k i m : Nat), i + k = d.Inodes.length → k < m → lookoutref22_Same_l0 n d d m (i : Int) = some true
  | k, i, 0, _, h => by omega
  | 0, i, m + 1, h, _ => by
    have : ¬ ((i : Int) < (d.Inodes.length : Int)) := by omega
    simp only [lookoutref22_Same_l0, lookoutref22_Same_s1, this, decide_false, cond_false]
    exact same_l2 n d h1 h1' hn d.Durable.length 0 n (by omega) hn'
  | k + 1, i, m + 1, h, h2 => by
    have ih := same_l0 n d h1 h1' h1'' hn hn' k (i + 1) m (by omega) (by omega)
    simp only [lookoutref22_Same_l0, show (i : Int) < (d.Inodes.length : Int) by omega, show (0 : Int) ≤ (i : Int) by omega, decide_true, Bool.and_true, cond_true, toNat_c, wr1 i (by omega), beq_self_eq_true, beqS_refl, Bool.not_true, cond_false, ih]
theorem same_refl (n : Nat) (d : GDisk) (h1 : d.Pending.length + 2 ≤ n) (h2 : d.Durable.length + 2 ≤ n) (h3 : d.Inodes.length + 2 ≤ n) (hn : n ≤ 1000000000) : lookoutref22_Same n d d = some true := by
  obtain ⟨m, rfl⟩ : ∃ m, n = m + 1 := ⟨n - 1, by omega⟩
  simp only [lookoutref22_Same, bne, beq_self_eq_true, Bool.not_true, cond_false]
  exact same_l0 m d (by omega) (by omega) (by omega) (by omega) (by omega) d.Inodes.length 0 m (by omega) (by omega)
theorem crI_len (d : GDisk) (picks : List Int) (l : Dir) : ∀ k i, (crI d picks l i k).length = k
  | 0, _ => rfl
  | k + 1, i => by simp [crI, crI_len d picks l k]
theorem crD_len (l : Dir) : ∀ k i, (crD l i k).length = k
  | 0, _ => rfl
  | k + 1, i => by simp [crD, crD_len l k]
end Go.Proofs.Ytkignmhjbjgkoaa

/- Plain laws, 7: sizes; DiskReads. -/
set_option linter.unusedVariables false
set_option linter.unusedSimpArgs false
namespace Go.Proofs.Ytkignmhjbjgkoaa
open Go Go.AM

theorem great_l4 (n : Nat) (d : GDisk) (h1 : d.Pending.length ≤ 1000000000) : ∀ (k i m : Nat) (s : Int), i + k = d.Pending.length → k < m → ∃ b, lookoutref22_Great_l4 n d m s (i : Int) = some b ∧ (b = false → ∀ x ∈ d.Pending.drop i, x.Name.size ≤ 100 ∧ x.To.size ≤ 100)
  | k, i, 0, _, _, h => by omega
  | 0, i, m + 1, s, h, _ => by
    have : ¬ ((i : Int) < (d.Pending.length : Int)) := by omega
    rw [List.drop_eq_nil_of_le (by omega)]
    exact ⟨decide (s > 60000), by simp only [lookoutref22_Great_l4, lookoutref22_Great_s5, this, decide_false, cond_false], fun _ x hx => by simp at hx⟩
  | k + 1, i, m + 1, s, h, h2 => by
    rw [getD_drop (d := dGDirOp) (show i < d.Pending.length by omega)]
    obtain ⟨b, e1, e2⟩ := great_l4 n d h1 k (i + 1) m s (by omega) (by omega)
    obtain ⟨x, hx⟩ : ∃ x, d.Pending.getD i dGDirOp = x := ⟨_, rfl⟩
    simp only [lookoutref22_Great_l4, show (i : Int) < (d.Pending.length : Int) by omega, show (0 : Int) ≤ (i : Int) by omega, decide_true, Bool.and_true, cond_true, toNat_c, wr1 i (by omega), hx, e1]
    by_cases c1 : (x.Name.size : Int) > 100
    · exact ⟨true, by simp only [c1, decide_true, cond_true], fun h => by cases h⟩
    · by_cases c2 : (x.To.size : Int) > 100
      · exact ⟨true, by simp only [c1, c2, decide_true, decide_false, cond_true, cond_false], fun h => by cases h⟩
      · refine ⟨b, by simp only [c1, c2, decide_false, cond_false], fun h y hy => ?_⟩
        rcases List.mem_cons.1 hy with rfl | hy
        · omega
        · exact e2 h y hy
theorem great_l2 (n : Nat) (d : GDisk) (h1 : d.Pending.length < n) (h1' : d.Durable.length ≤ 1000000000) (hn : d.Pending.length ≤ 1000000000 ∧ d.Durable.length ≤ 1000000000) : ∀ (k i m : Nat) (s : Int), i + k = d.Durable.length → k < m → ∃ b, lookoutref22_Great_l2 n d m s (i : Int) = some b ∧ (b = false → (∀ x ∈ d.Durable.drop i, x.Name.size ≤ 100) ∧ ∀ x ∈ d.Pending, x.Name.size ≤ 100 ∧ x.To.size ≤ 100)
  | k, i, 0, _, _, h => by omega
  | 0, i, m + 1, s, h, _ => by
    have : ¬ ((i : Int) < (d.Durable.length : Int)) := by omega
    rw [List.drop_eq_nil_of_le (by omega)]
    obtain ⟨b, e1, e2⟩ := great_l4 n d (by omega) d.Pending.length 0 n s (by omega) h1
    refine ⟨b, by simp only [lookoutref22_Great_l2, lookoutref22_Great_s3, this, decide_false, cond_false]; exact e1, fun h => ⟨fun x hx => by simp at hx, ?_⟩⟩
    simpa using e2 h
  | k + 1, i, m + 1, s, h, h2 => by
    rw [getD_drop (d := dGDirEntry) (show i < d.Durable.length by omega)]
    obtain ⟨b, e1, e2⟩ := great_l2 n d h1 h1' hn k (i + 1) m s (by omega) (by omega)
    obtain ⟨x, hx⟩ : ∃ x, d.Durable.getD i dGDirEntry = x := ⟨_, rfl⟩
    simp only [lookoutref22_Great_l2, show (i : Int) < (d.Durable.length : Int) by omega, show (0 : Int) ≤ (i : Int) by omega, decide_true, Bool.and_true, cond_true, toNat_c, wr1 i (by omega), hx, e1]
    by_cases c1 : (x.Name.size : Int) > 100
    · exact ⟨true, by simp only [c1, decide_true, cond_true], fun h => by cases h⟩
    · refine ⟨b, by simp only [c1, decide_false, cond_false], fun h => ⟨fun y hy => ?_, (e2 h).2⟩⟩
      rcases List.mem_cons.1 hy with rfl | hy
      · omega
      · exact (e2 h).1 y hy
theorem great_l0 (n : Nat) (d : GDisk) (h1 : d.Pending.length < n) (h1' : d.Durable.length < n) (hn : d.Pending.length ≤ 1000000000 ∧ d.Durable.length ≤ 1000000000) (hI : d.Inodes.length ≤ 1000000000) : ∀ (k i m : Nat) (s : Int), i + k = d.Inodes.length → k < m → ∃ b, lookoutref22_Great_l0 n d m s (i : Int) = some b ∧ (b = false → (∀ x ∈ d.Durable, x.Name.size ≤ 100) ∧ ∀ x ∈ d.Pending, x.Name.size ≤ 100 ∧ x.To.size ≤ 100)
  | k, i, 0, _, _, h => by omega
  | 0, i, m + 1, s, h, _ => by
    have : ¬ ((i : Int) < (d.Inodes.length : Int)) := by omega
    obtain ⟨b, e1, e2⟩ := great_l2 n d h1 (by omega) hn d.Durable.length 0 n s (by omega) h1'
    refine ⟨b, by simp only [lookoutref22_Great_l0, lookoutref22_Great_s1, this, decide_false, cond_false]; exact e1, fun h => ?_⟩
    simpa using e2 h
  | k + 1, i, m + 1, s, h, h2 => by
    obtain ⟨x, hx⟩ : ∃ x, d.Inodes.getD i dGInode = x := ⟨_, rfl⟩
    obtain ⟨b, e1, e2⟩ := great_l0 n d h1 h1' hn hI k (i + 1) m (IntKind.wrap .i64 (s + (x.Data.size : Int))) (by omega) (by omega)
    simp only [lookoutref22_Great_l0, show (i : Int) < (d.Inodes.length : Int) by omega, show (0 : Int) ≤ (i : Int) by omega, decide_true, Bool.and_true, cond_true, toNat_c, wr1 i (by omega), hx, e1]
    by_cases c1 : (x.Data.size : Int) > 20000
    · exact ⟨true, by simp only [c1, decide_true, cond_true], fun h => by cases h⟩
    · exact ⟨b, by simp only [c1, decide_false, cond_false], e2⟩
theorem great_all (n : Nat) (d : GDisk) (hn : 50 ≤ n) : ∃ b, lookoutref22_Great n d = some b ∧ (b = false → Bd 200 d ∧ d.Inodes.length ≤ 40 ∧ d.Durable.length ≤ 40 ∧ d.Pending.length ≤ 40) := by
  obtain ⟨m, rfl⟩ : ∃ m, n = m + 1 := ⟨n - 1, by omega⟩
  by_cases c1 : (d.Inodes.length : Int) > 40
  · exact ⟨true, by simp only [lookoutref22_Great, c1, decide_true, cond_true], fun h => by cases h⟩
  · by_cases c2 : (d.Durable.length : Int) > 40
    · exact ⟨true, by simp only [lookoutref22_Great, c1, c2, decide_true, decide_false, cond_true, cond_false], fun h => by cases h⟩
    · by_cases c3 : (d.Pending.length : Int) > 40
      · exact ⟨true, by simp only [lookoutref22_Great, c1, c2, c3, decide_true, decide_false, cond_true, cond_false], fun h => by cases h⟩
      · obtain ⟨b, e1, e2⟩ := great_l0 m d (by omega) (by omega) ⟨by omega, by omega⟩ (by omega) d.Inodes.length 0 m 0 (by omega) (by omega)
        refine ⟨b, by simp only [lookoutref22_Great, c1, c2, c3, decide_false, cond_false]; exact e1, fun h => ⟨⟨fun e he => ?_, fun x hx => ?_, by omega, by omega, by omega, by omega⟩, by omega, by omega, by omega⟩⟩
        · have := (e2 h).1 e he; omega
        · have := (e2 h).2 x hx; omega
theorem great_eq (n : Nat) (d : GDisk) (hn : 50 ≤ n) (hn' : n ≤ 1000000000) : ∃ b, lookoutref22_Great n d = some b ∧ (b = false → Bd 200 d ∧ d.Inodes.length ≤ 40 ∧ d.Durable.length ≤ 40 ∧ d.Pending.length ≤ 40) := great_all n d hn

theorem lsF_len {d : GDisk} (hD : d.Durable.length ≤ 1000000000) : (lsF d).length ≤ 1000 := by
  unfold lsF
  cases hv : valid d with
  | false => simp
  | true => have := cur_len hv hD; simpa using this

end Go.Proofs.Ytkignmhjbjgkoaa

