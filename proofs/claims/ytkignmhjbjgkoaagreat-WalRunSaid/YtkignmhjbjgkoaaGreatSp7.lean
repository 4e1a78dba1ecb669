/- Plain laws, 6: a loss of power; disks held against each other. -/
import Derived.Test.YtkignmhjbjgkoaaGreatSp5
import Derived.Test.YtkignmhjbjgkoaaGreatWf
set_option linter.unusedVariables false
set_option linter.unusedSimpArgs false
namespace Go.Proofs.YtkignmhjbjgkoaaGreat
open Go Go.AM

/-- A pick. -/
def pk (picks : List Int) (i : Nat) (n : Int) : Int := if i < picks.length then (if (picks.getD i 0).tmod n < 0 then (picks.getD i 0).tmod n + n else (picks.getD i 0).tmod n) else 0
theorem pk_in (picks : List Int) (i : Nat) (n : Int) (hn : 0 < n) : 0 ≤ pk picks i n ∧ pk picks i n < n := by
  have h1 := Int.tmod_lt_of_pos (picks.getD i 0) hn
  have h2 := Int.lt_tmod_of_pos (picks.getD i 0) hn
  unfold pk
  split
  · split <;> omega
  · omega
theorem c1_eq (n : Nat) (k : Int) (picks : List Int) (i : Nat) (hn : 1 ≤ n) (h0 : 0 < k) (hk : k ≤ 1000000000) (hp : picks.length ≤ 1000000000) :
    disk_Crash_c1 n k picks ((min i picks.length : Nat) : Int) = some (pk picks i k, picks, ((min (i + 1) picks.length : Nat) : Int)) := by
  obtain ⟨m, rfl⟩ : ∃ m, n = m + 1 := ⟨n - 1, by omega⟩
  by_cases hi : i < picks.length
  · have e1 : min i picks.length = i := by omega
    have e2 : min (i + 1) picks.length = i + 1 := by omega
    have h1 := Int.tmod_lt_of_pos (picks.getD i 0) h0
    have h2 := Int.lt_tmod_of_pos (picks.getD i 0) h0
    rw [e1, e2]
    simp only [disk_Crash_c1, show ¬ ((i : Int) ≥ (picks.length : Int)) by omega, show (0 : Int) ≤ (i : Int) by omega, show (i : Int) < (picks.length : Int) by omega, decide_true, decide_false, Bool.and_true, cond_true, cond_false, toNat_c, show (k != 0) = true by simp; omega, wr1 i (by omega), pk, hi, if_true]
    by_cases c : (picks.getD i 0).tmod k < 0
    · simp only [c, decide_true, cond_true, if_true, wr ((picks.getD i 0).tmod k + k) (by omega) (by omega)]
    · simp only [c, decide_false, cond_false, if_false]
  · have e1 : min i picks.length = picks.length := by omega
    have e2 : min (i + 1) picks.length = picks.length := by omega
    rw [e1, e2]
    simp only [disk_Crash_c1, show ((picks.length : Int) ≥ (picks.length : Int)) by omega, decide_true, cond_true, pk, hi, if_false]
theorem aft_take (N : Int) : ∀ (ops : List GDirOp) (l : Dir) (c : Nat), (aft N ops l).2 = true → (aft N (ops.take c) l).2 = true
  | [], l, c, _ => by simp [aft]
  | x :: ops, l, 0, _ => by simp [aft]
  | x :: ops, l, c + 1, h => by
    simp only [aft, List.take_succ_cons] at h ⊢
    cases ha : (ap N l x).2 with
    | false => rw [ha] at h; cases h
    | true => rw [ha] at h; exact aft_take N ops _ c h

/-! ### What is left of a file -/
def kept (d : GDisk) (picks : List Int) (l : Dir) (i : Nat) : Int :=
  (d.Inodes.getD (l.getD i dGDirEntry).Inode.toNat dGInode).Synced + pk picks (i + 1) (((d.Inodes.getD (l.getD i dGDirEntry).Inode.toNat dGInode).Data.size : Int) - (d.Inodes.getD (l.getD i dGDirEntry).Inode.toNat dGInode).Synced + 1)
def crI (d : GDisk) (picks : List Int) (l : Dir) (i : Nat) : Nat → List GInode
  | 0 => []
  | k + 1 => ⟨ByteArray.extract (d.Inodes.getD (l.getD i dGDirEntry).Inode.toNat dGInode).Data 0 (kept d picks l i).toNat, kept d picks l i⟩ :: crI d picks l (i + 1) k
def crD (l : Dir) (i : Nat) : Nat → Dir
  | 0 => []
  | k + 1 => ⟨(l.getD i dGDirEntry).Name, (i : Int)⟩ :: crD l (i + 1) k
def crCount (d : GDisk) (picks : List Int) : Nat := (pk picks 0 ((d.Pending.length : Int) + 1)).toNat
def crDir (d : GDisk) (picks : List Int) : Dir := (aft (d.Inodes.length : Int) (d.Pending.take (crCount d picks)) d.Durable).1
def crF (d : GDisk) (picks : List Int) : GDisk := bif valid d then ⟨crI d picks (crDir d picks) 0 (crDir d picks).length, crD (crDir d picks) 0 (crDir d picks).length, [], -1⟩ else ⟨[], [], [], 0⟩

theorem inode_ok {d : GDisk} (hO : d.Inodes.all okI = true) {i : Int} (h0 : 0 ≤ i) (h1 : i < d.Inodes.length) : okI (d.Inodes.getD i.toNat dGInode) = true := by
  have hi : i.toNat < d.Inodes.length := by omega
  have hm : d.Inodes.getD i.toNat dGInode ∈ d.Inodes := by
    have := List.drop_subset i.toNat d.Inodes; rw [getD_drop (d := dGInode) hi] at this; exact this (by simp)
  exact List.all_eq_true.1 hO _ hm
theorem okI_spec {x : GInode} (h : okI x = true) : x.Data.size ≤ 1048576 ∧ 0 ≤ x.Synced ∧ x.Synced ≤ (x.Data.size : Int) := by simpa [okI] using h
theorem kept_in {d : GDisk} {picks : List Int} {l : Dir} {i : Nat} (h : okI (d.Inodes.getD (l.getD i dGDirEntry).Inode.toNat dGInode) = true) :
    (d.Inodes.getD (l.getD i dGDirEntry).Inode.toNat dGInode).Synced ≤ kept d picks l i ∧ kept d picks l i ≤ ((d.Inodes.getD (l.getD i dGDirEntry).Inode.toNat dGInode).Data.size : Int) := by
  obtain ⟨h1, h2, h3⟩ := okI_spec h
  have := pk_in picks (i + 1) (((d.Inodes.getD (l.getD i dGDirEntry).Inode.toNat dGInode).Data.size : Int) - (d.Inodes.getD (l.getD i dGDirEntry).Inode.toNat dGInode).Synced + 1) (by omega)
  unfold kept; omega

theorem getD_mem {l : Dir} {i : Nat} (h : i < l.length) : l.getD i dGDirEntry ∈ l := by
  have := List.drop_subset i l; rw [getD_drop (d := dGDirEntry) h] at this; exact this (by simp)
theorem getD_map_name {l : Dir} {i : Nat} (h : i < l.length) : (l.map (·.Name)).getD i bE = (l.getD i dGDirEntry).Name := by
  simp [List.getD, List.getElem?_eq_getElem h]

theorem crash_l3 (n : Nat) (d : GDisk) (r9 : Nat × Bool × (List (ByteArray × Int)) × (List Bool)) (r16 : Int) (r7 : List (ByteArray × Int)) (r8 : List Bool) (f : List (ByteArray × Int)) (t : List Bool) (l : Dir) (hR : Rd d.Inodes.length f t l) (hO : d.Inodes.all okI = true) (hl : l.length ≤ 1000) (hn : 1 ≤ n) (picks : List Int) (hp : picks.length ≤ 1000000000) (l11 : List Bool) :
    ∀ (k i m : Nat) (a1 : List GInode) (a2 : Dir), i + k = l.length → a1.length = i → a2.length = i → k < m →
    disk_Crash_l3 n d r9 r16 (l.map (·.Name)) r7 r8 f m a1 a2 (l.length : Int) (i : Int) picks l11 ((min (i + 1) picks.length : Nat) : Int) = some ⟨a1 ++ crI d picks l i k, a2 ++ crD l i k, [], r16⟩
  | k, i, 0, _, _, _, _, _, h => by omega
  | 0, i, m + 1, a1, a2, h, _, _, _ => by
    have : ¬ ((i : Int) < (l.length : Int)) := by omega
    simp only [disk_Crash_l3, disk_Crash_s4, this, decide_false, cond_false, crI, crD, List.append_nil]
  | k + 1, i, m + 1, a1, a2, h, h1, h2, h3 => by
    have hw := wr1 i (by omega)
    have hlt : (i : Int) < (l.length : Int) := by omega
    have hlt2 : (i : Int) < ((l.map (·.Name)).length : Int) := by rw [List.length_map]; omega
    have h0 : (0 : Int) ≤ (i : Int) := by omega
    have hi : i < l.length := by omega
    have hmem := getD_mem hi
    have hlk : lk (l.getD i dGDirEntry).Name f = some (l.getD i dGDirEntry).Inode := by rw [hR.lks]; exact (lkE_some hR.srt).2 hmem
    obtain ⟨g1, g2⟩ := hR.rng _ hmem
    have hok := inode_ok hO g1 g2
    obtain ⟨o1, o2, o3⟩ := okI_spec hok
    obtain ⟨q1, q2⟩ := kept_in (picks := picks) hok
    have hs1 := wr ((((d.Inodes.getD (l.getD i dGDirEntry).Inode.toNat dGInode).Data.size : Nat) : Int) - (d.Inodes.getD (l.getD i dGDirEntry).Inode.toNat dGInode).Synced) (by omega) (by omega)
    have hs2 := wr ((((d.Inodes.getD (l.getD i dGDirEntry).Inode.toNat dGInode).Data.size : Nat) : Int) - (d.Inodes.getD (l.getD i dGDirEntry).Inode.toNat dGInode).Synced + 1) (by omega) (by omega)
    have hc := c1_eq n ((((d.Inodes.getD (l.getD i dGDirEntry).Inode.toNat dGInode).Data.size : Nat) : Int) - (d.Inodes.getD (l.getD i dGDirEntry).Inode.toNat dGInode).Synced + 1) picks (i + 1) hn (by omega) (by omega) hp
    have hk : IntKind.wrap .i64 ((d.Inodes.getD (l.getD i dGDirEntry).Inode.toNat dGInode).Synced + pk picks (i + 1) ((((d.Inodes.getD (l.getD i dGDirEntry).Inode.toNat dGInode).Data.size : Nat) : Int) - (d.Inodes.getD (l.getD i dGDirEntry).Inode.toNat dGInode).Synced + 1)) = kept d picks l i := wr (kept d picks l i) (by omega) (by omega)
    have ih := crash_l3 n d r9 r16 r7 r8 f t l hR hO hl hn picks hp l11 k (i + 1) m (a1 ++ [⟨ByteArray.extract (d.Inodes.getD (l.getD i dGDirEntry).Inode.toNat dGInode).Data 0 (kept d picks l i).toNat, kept d picks l i⟩]) (a2 ++ [⟨(l.getD i dGDirEntry).Name, (i : Int)⟩]) (by omega) (by simp [h1]) (by simp [h2]) (by omega)
    simp only [disk_Crash_l3, hlt, hlt2, h0, decide_true, Bool.and_true, cond_true, toNat_c, hw, getD_map_name hi, hlk, Option.getD_some, g1, g2, hs1, hs2, hc, Option.bind_some, hk, show (0 : Int) ≤ 0 by omega, show (0 : Int) ≤ kept d picks l i by omega, q2,
      app_ok (n := a1.length) (b := 24) (by omega) (by omega), app_ok (n := a2.length) (b := 24) (by omega) (by omega), ih, crI, crD, List.append_assoc, List.singleton_append]

theorem crash_l0 (n : Nat) (d : GDisk) (N : Nat) (r9 : Nat × Bool × (List (ByteArray × Int)) × (List Bool)) (h9 : r9.1 = N) (r10 : Int × (List Int) × Int) (r7 : List (ByteArray × Int)) (r8 : List Bool) (hn : 2 ≤ n) (ops : List GDirOp) (ho : ops.length ≤ 1000000000) :
    ∀ (k i m : Nat) (f : List (ByteArray × Int)) (t : List Bool) (l : Dir), i + k = ops.length → Rd N f t l → (aft N (ops.drop i) l).2 = true → k < m →
    ∃ f' t', disk_Crash_l0 n d r9 r10 r7 r8 m ops (ops.length : Int) (i : Int) f t = disk_Crash_s2 n d r9 r10 r7 r8 f' t' ∧ Rd N f' t' (aft N (ops.drop i) l).1
  | k, i, 0, _, _, _, _, _, _, h => by omega
  | 0, i, m + 1, f, t, l, h, hR, _, _ => by
    have : ¬ ((i : Int) < (ops.length : Int)) := by omega
    have h2 : ops.drop i = [] := List.drop_eq_nil_of_le (by omega)
    rw [h2]
    exact ⟨f, t, by simp only [disk_Crash_l0, this, decide_false, cond_false], hR⟩
  | k + 1, i, m + 1, f, t, l, h, hR, ha, h2 => by
    have hw := wr1 i (by omega)
    have hlt : (i : Int) < (ops.length : Int) := by omega
    have h0 : (0 : Int) ≤ (i : Int) := by omega
    rw [getD_drop (d := dGDirOp) (show i < ops.length by omega)] at ha ⊢
    obtain ⟨x, hx⟩ : ∃ x, ops.getD i dGDirOp = x := ⟨_, rfl⟩
    rw [hx] at ha ⊢
    simp only [aft] at ha ⊢
    obtain ⟨q, rfl⟩ : ∃ q, n = q + 1 := ⟨n - 1, by omega⟩
    cases hap : (ap N l x).2 with
    | false => rw [hap] at ha; cases ha
    | true =>
      rw [hap] at ha
      simp only [cond_true] at ha ⊢
      simp only [disk_Crash_l0, disk_Crash_s1, hlt, h0, decide_true, Bool.and_true, cond_true, toNat_c, hw, hx, disk_operationOf, h9]
      by_cases k1 : x.Kind = 1
      · obtain ⟨f', t', e1, e2⟩ := create_eq (n := q + 1) hR x k1 hap (by omega)
        simp only [k1, show ((1 : Int) == 1) = true by rfl, cond_true, Option.bind_some, e1]
        exact crash_l0 (q + 1) d N r9 h9 r10 r7 r8 hn ops ho k (i + 1) m f' t' _ (by omega) e2 ha (by omega)
      · have e1 : (x.Kind == 1) = false := by simpa using k1
        by_cases k2 : x.Kind = 2
        · obtain ⟨f', t', e1, e2⟩ := rename_eq (n := q + 1) hR x k2 hap (by omega)
          simp only [k2, show ((2 : Int) == 1) = false by rfl, show ((2 : Int) == 2) = true by rfl, cond_true, cond_false, Option.bind_some, e1]
          exact crash_l0 (q + 1) d N r9 h9 r10 r7 r8 hn ops ho k (i + 1) m f' t' _ (by omega) e2 ha (by omega)
        · have e2 : (x.Kind == 2) = false := by simpa using k2
          by_cases k3 : x.Kind = 3
          · obtain ⟨f', t', e1, e2⟩ := remove_eq (n := q + 1) hR x k3 hap (by omega)
            simp only [k3, show ((3 : Int) == 1) = false by rfl, show ((3 : Int) == 2) = false by rfl, show ((3 : Int) == 3) = true by rfl, cond_true, cond_false, Option.bind_some, e1]
            exact crash_l0 (q + 1) d N r9 h9 r10 r7 r8 hn ops ho k (i + 1) m f' t' _ (by omega) e2 ha (by omega)
          · rw [ap_none k1 k2 k3] at hap; cases hap

theorem count_in (d : GDisk) (picks : List Int) : ((crCount d picks : Nat) : Int) = pk picks 0 ((d.Pending.length : Int) + 1) ∧ crCount d picks ≤ d.Pending.length := by
  have := pk_in picks 0 ((d.Pending.length : Int) + 1) (by omega)
  unfold crCount; omega
theorem crDir_rd {d : GDisk} (picks : List Int) (hv : valid d = true) (hD : d.Durable.length ≤ 1000000000) (n : Nat) (hn : d.Durable.length + 80 ≤ n) : ∃ f t, disk_durable n d = some (d.Inodes.length, true, f, t) ∧ Rd d.Inodes.length f t d.Durable := by
  obtain ⟨h1, h2, h3, h4, h5, h6⟩ := valid_il hv
  obtain ⟨f, t, e1, e2⟩ := durable_eq n d hn hD (by omega)
  rw [h5] at e1
  exact ⟨f, t, e1, e2 h5⟩
theorem crash_d (n B : Nat) (d : GDisk) (picks : List Int) (hb : Bd B d) (hn : B + 1200 ≤ n) (hp : picks.length ≤ 1000000000) : disk_Crash n d picks = some (crF d picks) := by
  obtain ⟨m, rfl⟩ : ∃ m, n = m + 1 := ⟨n - 1, by omega⟩
  have hB := hb.big; have hdl := hb.dl
  obtain ⟨r, h1, h2⟩ := current_eq m d (by omega) (by omega)
  simp only [disk_Crash, h1, Option.bind_some, crF]
  unfold curOut at h2
  cases hv : valid d with
  | false =>
    rw [if_neg (by simp [hv])] at h2
    cases r with
    | c0 a => rfl
    | c1 a b c => rfl
    | c2 a f t => exact absurd rfl (h2 a f t)
  | true =>
    rw [if_pos hv] at h2
    obtain ⟨f0, t0, rfl, _⟩ := h2
    obtain ⟨i1, i2, i3, i4, i5, i6⟩ := valid_il hv
    obtain ⟨f, t, e1, hR⟩ := crDir_rd picks hv (by omega) m (by omega)
    obtain ⟨c1, c2⟩ := count_in d picks
    have hpk := pk_in picks 0 ((d.Pending.length : Int) + 1) (by omega)
    have hc := c1_eq m ((d.Pending.length : Int) + 1) picks 0 (by omega) (by omega) (by omega) hp
    rw [Nat.zero_min, Nat.zero_add] at hc
    have hc' : disk_Crash_c1 m ((d.Pending.length : Int) + 1) picks 0 = some (pk picks 0 ((d.Pending.length : Int) + 1), picks, ((min 1 picks.length : Nat) : Int)) := hc
    have htk : (d.Pending.take (crCount d picks)).length = crCount d picks := by rw [List.length_take]; omega
    have haft := aft_take (d.Inodes.length : Int) d.Pending d.Durable (crCount d picks) i6
    simp only [e1, Option.bind_some, Bool.not_true, cond_false, cond_true, wr ((d.Pending.length : Int) + 1) (by omega) (by omega), hc', show (0 : Int) ≤ 0 by omega, hpk.1, show pk picks 0 ((d.Pending.length : Int) + 1) ≤ (d.Pending.length : Int) by omega, decide_true, Bool.and_true]
    show disk_Crash_l0 m d _ _ f0 t0 m (d.Pending.take (crCount d picks)) ((d.Pending.take (crCount d picks)).length : Int) ((0 : Nat) : Int) f t = _
    obtain ⟨f', t', e2, hR'⟩ := crash_l0 m d d.Inodes.length (d.Inodes.length, true, f, t) rfl (pk picks 0 ((d.Pending.length : Int) + 1), picks, ((min 1 picks.length : Nat) : Int)) f0 t0 (by omega) (d.Pending.take (crCount d picks)) (by omega) (crCount d picks) 0 m f t d.Durable (by omega) hR haft (by omega)
    rw [e2]
    rw [List.drop_zero] at hR'
    have hl : (crDir d picks).length ≤ 1000 := by have := hR'.bound; unfold crDir; omega
    obtain ⟨q, rfl⟩ : ∃ q, m = q + 1 := ⟨m - 1, by omega⟩
    simp only [disk_Crash_s2, disk_New, maps_Keys, Option.bind_some, sorted_rd hR' (q + 1) (by omega) (by have := hR'.bound; omega)]
    have := crash_l3 (q + 1) d (d.Inodes.length, true, f, t) (-1) f0 t0 f' t' (crDir d picks) hR' i4 hl (by omega) picks hp t' (crDir d picks).length 0 (q + 1) [] [] (by omega) rfl rfl (by omega)
    simp only [List.length_map]
    exact this

/-! ### A disk is the same as itself -/
theorem beqS_refl (a : ByteArray) : (a == a) = true := by rw [beqS]; simp
theorem crI_len (d : GDisk) (picks : List Int) (l : Dir) : ∀ k i, (crI d picks l i k).length = k
  | 0, _ => rfl
  | k + 1, i => by simp [crI, crI_len d picks l k]
theorem crD_len (l : Dir) : ∀ k i, (crD l i k).length = k
  | 0, _ => rfl
  | k + 1, i => by simp [crD, crD_len l k]
end Go.Proofs.YtkignmhjbjgkoaaGreat

/- Plain laws, 7: sizes; DiskReads. -/
set_option linter.unusedVariables false
set_option linter.unusedSimpArgs false
namespace Go.Proofs.YtkignmhjbjgkoaaGreat
open Go Go.AM

theorem crF_len {d : GDisk} (picks : List Int) (hD : d.Durable.length ≤ 1000000000) : (crF d picks).Inodes.length ≤ 1000 ∧ (crF d picks).Durable.length ≤ 1000 ∧ (crF d picks).Pending.length = 0 := by
  unfold crF
  cases hv : valid d with
  | false => simp
  | true =>
    obtain ⟨i1, i2, i3, i4, i5, i6⟩ := valid_il hv
    obtain ⟨f, t, e1, hR⟩ := crDir_rd picks hv hD (d.Durable.length + 80) (by omega)
    have haft := aft_take (d.Inodes.length : Int) d.Pending d.Durable (crCount d picks) i6
    obtain ⟨f', t', _, hR'⟩ := crash_l0 2 d d.Inodes.length (d.Inodes.length, true, f, t) rfl (0, [], 0) [] [] (by omega) (d.Pending.take (crCount d picks)) (by rw [List.length_take]; omega) (d.Pending.take (crCount d picks)).length 0 ((d.Pending.take (crCount d picks)).length + 1) f t d.Durable (by omega) hR haft (by omega)
    rw [List.drop_zero] at hR'
    have hl : (crDir d picks).length ≤ 1000 := by have := hR'.bound; unfold crDir; omega
    simp only [cond_true, crI_len, crD_len, List.length_nil]
    exact ⟨hl, hl, trivial⟩
theorem lsF_len {d : GDisk} (hD : d.Durable.length ≤ 1000000000) : (lsF d).length ≤ 1000 := by
  unfold lsF
  cases hv : valid d with
  | false => simp
  | true => have := cur_len hv hD; simpa using this

end Go.Proofs.YtkignmhjbjgkoaaGreat
