/- Plain laws, 6: a loss of power; disks held against each other. -/
import Derived.Test.YtkignmhjbjgkoaaSp5
import Derived.Test.YtkignmhjbjgkoaaWf
set_option linter.unusedVariables false
set_option linter.unusedSimpArgs false
namespace Go.Proofs.Ytkignmhjbjgkoaa
open Go Go.AM

/-- A pick. -/
def pk (picks : List Int) (i : Nat) (n : Int) : Int := if i < picks.length then (if (picks.getD i 0).tmod n < 0 then (picks.getD i 0).tmod n + n else (picks.getD i 0).tmod n) else 0
theorem pk_in (picks : List Int) (i : Nat) (n : Int) (hn : 0 < n) : 0 ≤ pk picks i n ∧ pk picks i n < n := by
  have h1 := Int.tmod_lt_of_pos (picks.getD i 0) hn
  have h2 := Int.lt_tmod_of_pos (picks.getD i 0) hn
  unfold pk
  split
  · split <;> omega
  · omega
theorem aft_take (N : Int) : ∀ (ops : List GDirOp) (l : Dir) (c : Nat), (aft N ops l).2 = true → (aft N (ops.take c) l).2 = true
  | [], l, c, _ => by simp [aft]
  | x :: ops, l, 0, _ => by simp [aft]
  | x :: ops, l, c + 1, h => by
    simp only [aft, List.take_succ_cons] at h ⊢
    cases ha : (ap N l x).2 with
    | false => rw [ha] at h; cases h
    | true => rw [ha] at h; exact aft_take N ops _ c h

/-! ### What is left of a file -/
def kept (d : GDisk) (picks : List Int) (l : Dir) (i : Nat) : Int :=
  (d.Inodes.getD (l.getD i dGDirEntry).Inode.toNat dGInode).Synced + pk picks (i + 1) (((d.Inodes.getD (l.getD i dGDirEntry).Inode.toNat dGInode).Data.size : Int) - (d.Inodes.getD (l.getD i dGDirEntry).Inode.toNat dGInode).Synced + 1)
def crI (d : GDisk) (picks : List Int) (l : Dir) (i : Nat) : Nat → List GInode
  | 0 => []
  | k + 1 => ⟨ByteArray.extract (d.Inodes.getD (l.getD i dGDirEntry).Inode.toNat dGInode).Data 0 (kept d picks l i).toNat, kept d picks l i⟩ :: crI d picks l (i + 1) k
def crD (l : Dir) (i : Nat) : Nat → Dir
  | 0 => []
  | k + 1 => ⟨(l.getD i dGDirEntry).Name, (i : Int)⟩ :: crD l (i + 1) k
def crCount (d : GDisk) (picks : List Int) : Nat := (pk picks 0 ((d.Pending.length : Int) + 1)).toNat
def crDir (d : GDisk) (picks : List Int) : Dir := (aft (d.Inodes.length : Int) (d.Pending.take (crCount d picks)) d.Durable).1
def crF (d : GDisk) (picks : List Int) : GDisk := bif valid d then ⟨crI d picks (crDir d picks) 0 (crDir d picks).length, crD (crDir d picks) 0 (crDir d picks).length, [], -1⟩ else ⟨[], [], [], 0⟩

theorem inode_ok {d : GDisk} (hO : d.Inodes.all okI = true) {i : Int} (h0 : 0 ≤ i) (h1 : i < d.Inodes.length) : okI (d.Inodes.getD i.toNat dGInode) = true := by
  have hi : i.toNat < d.Inodes.length := by omega
  have hm : d.Inodes.getD i.toNat dGInode ∈ d.Inodes := by
    have := List.drop_subset i.toNat d.Inodes; rw [getD_drop (d := dGInode) hi] at this; exact this (by simp)
  exact List.all_eq_true.1 hO _ hm
theorem okI_spec {x : GInode} (h : okI x = true) : x.Data.size ≤ 1048576 ∧ 0 ≤ x.Synced ∧ x.Synced ≤ (x.Data.size : Int) := by simpa [okI] using h
theorem kept_in {d : GDisk} {picks : List Int} {l : Dir} {i : Nat} (h : okI (d.Inodes.getD (l.getD i dGDirEntry).Inode.toNat dGInode) = true) :
    (d.Inodes.getD (l.getD i dGDirEntry).Inode.toNat dGInode).Synced ≤ kept d picks l i ∧ kept d picks l i ≤ ((d.Inodes.getD (l.getD i dGDirEntry).Inode.toNat dGInode).Data.size : Int) := by
  obtain ⟨h1, h2, h3⟩ := okI_spec h
  have := pk_in picks (i + 1) (((d.Inodes.getD (l.getD i dGDirEntry).Inode.toNat dGInode).Data.size : Int) - (d.Inodes.getD (l.getD i dGDirEntry).Inode.toNat dGInode).Synced + 1) (by omega)
  unfold kept; omega

theorem getD_mem {l : Dir} {i : Nat} (h : i < l.length) : l.getD i dGDirEntry ∈ l := by
  have := List.drop_subset i l; rw [getD_drop (d := dGDirEntry) h] at this; exact this (by simp)
theorem getD_map_name {l : Dir} {i : Nat} (h : i < l.length) : (l.map (·.Name)).getD i bE = (l.getD i dGDirEntry).Name := by
  simp [List.getD, List.getElem?_eq_getElem h]

theorem count_in (d : GDisk) (picks : List Int) : ((crCount d picks : Nat) : Int) = pk picks 0 ((d.Pending.length : Int) + 1) ∧ crCount d picks ≤ d.Pending.length := by
  have := pk_in picks 0 ((d.Pending.length : Int) + 1) (by omega)
  unfold crCount; omega
theorem crDir_rd {d : GDisk} (picks : List Int) (hv : valid d = true) (hD : d.Durable.length ≤ 1000000000) (n : Nat) (hn : d.Durable.length + 80 ≤ n) : ∃ f t, disk_durable n d = some (d.Inodes.length, true, f, t) ∧ Rd d.Inodes.length f t d.Durable := by
  obtain ⟨h1, h2, h3, h4, h5, h6⟩ := valid_il hv
  obtain ⟨f, t, e1, e2⟩ := durable_eq n d hn hD (by omega)
  rw [h5] at e1
  exact ⟨f, t, e1, e2 h5⟩
/-! ### A disk is the same as itself -/
theorem beqS_refl (a : ByteArray) : (a == a) = true := by rw [beqS]; simp
theorem crI_len (d : GDisk) (picks : List Int) (l : Dir) : ∀ k i, (crI d picks l i k).length = k
  | 0, _ => rfl
  | k + 1, i => by simp [crI, crI_len d picks l k]
theorem crD_len (l : Dir) : ∀ k i, (crD l i k).length = k
  | 0, _ => rfl
  | k + 1, i => by simp [crD, crD_len l k]
end Go.Proofs.Ytkignmhjbjgkoaa

/- Plain laws, 7: sizes; DiskReads. -/
set_option linter.unusedVariables false
set_option linter.unusedSimpArgs false
namespace Go.Proofs.Ytkignmhjbjgkoaa
open Go Go.AM

theorem lsF_len {d : GDisk} (hD : d.Durable.length ≤ 1000000000) : (lsF d).length ≤ 1000 := by
  unfold lsF
  cases hv : valid d with
  | false => simp
  | true => have := cur_len hv hD; simpa using this

end Go.Proofs.Ytkignmhjbjgkoaa
