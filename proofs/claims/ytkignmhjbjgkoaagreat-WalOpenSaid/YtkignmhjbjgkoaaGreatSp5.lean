/- Plain laws, 5: the reference's check; files are found and read alike. -/
import Derived.Test.YtkignmhjbjgkoaaGreatSp4
set_option linter.unusedVariables false
set_option linter.unusedSimpArgs false
namespace Go.Proofs.YtkignmhjbjgkoaaGreat
open Go Go.AM

/-- Sizes. -/
structure Bd (B : Nat) (d : GDisk) : Prop where
  dn : ∀ e ∈ d.Durable, e.Name.size ≤ B
  pn : ∀ x ∈ d.Pending, x.Name.size + x.To.size ≤ B
  dl : d.Durable.length ≤ B
  pl : d.Pending.length ≤ B
  il : d.Inodes.length ≤ B
  big : B ≤ 100000

theorem durA_bound {d : GDisk} (hD : d.Durable.length ≤ 1000000000) (hI : d.Inodes.length ≤ 1000000) (h : durA d = true) : d.Durable.length ≤ d.Inodes.length := by
  obtain ⟨f, t, _, h2⟩ := durable_eq (d.Durable.length + 80) d (by omega) hD hI
  exact (h2 h).bound

theorem check_l3 (n : Nat) (k_l2 : Int → Option Int) (d : GDisk) (name : ByteArray) (ino : Int) (i : Nat) (hi : i < d.Durable.length) (hD : d.Durable.length ≤ 1000000000) : ∀ (k j m : Nat), j + k = i → k < m →
    lookoutref22_Check_l3 n k_l2 d m (i : Int) name ino (j : Int) = bif usedE ((d.Durable.take i).drop j) ino then some 1 else k_l2 ((i + 1 : Nat) : Int)
  | k, j, 0, _, h => by omega
  | 0, j, m + 1, h, _ => by
    have : ¬ ((j : Int) < (i : Int)) := by omega
    have hw := wr1 i (by omega)
    have h2 : (d.Durable.take i).drop j = [] := List.drop_eq_nil_of_le (by rw [List.length_take]; omega)
    simp only [lookoutref22_Check_l3, lookoutref22_Check_s4, this, decide_false, cond_false, h2, usedE, List.any_nil, hw]
  | k + 1, j, m + 1, h, h2 => by
    have hw := wr1 j (by omega)
    have hlt : (j : Int) < (i : Int) := by omega
    have hlt2 : (j : Int) < (d.Durable.length : Int) := by omega
    have h0 : (0 : Int) ≤ (j : Int) := by omega
    have hg : (d.Durable.take i).getD j dGDirEntry = d.Durable.getD j dGDirEntry := by simp only [List.getD]; rw [List.getElem?_take_of_lt (by omega)]
    rw [getD_drop (d := dGDirEntry) (show j < (d.Durable.take i).length by rw [List.length_take]; omega), hg]
    have ih := check_l3 n k_l2 d name ino i hi hD k (j + 1) m (by omega) (by omega)
    simp only [lookoutref22_Check_l3, hlt, hlt2, h0, decide_true, Bool.and_true, cond_true, toNat_c, hw, ih, usedE, List.any_cons]
    cases (d.Durable.getD j dGDirEntry).Inode == ino <;> rfl

theorem check_l2 (n B : Nat) (d : GDisk) (hb : Bd B d) (hn : 2 * B + 10 ≤ n) : ∀ (k i m : Nat), i + k = d.Durable.length → k < m →
    lookoutref22_Check_l2 n d m (i : Int) = bif durB d.Inodes.length d.Durable i k then lookoutref22_Check_s5 n d else some 1
  | k, i, 0, _, h => by omega
  | 0, i, m + 1, h, _ => by
    have : ¬ ((i : Int) < (d.Durable.length : Int)) := by omega
    simp only [lookoutref22_Check_l2, this, decide_false, cond_false, durB, cond_true]
  | k + 1, i, m + 1, h, h2 => by
    have hB := hb.big; have hdl := hb.dl
    have hw := wr1 i (by omega)
    have hlt : (i : Int) < (d.Durable.length : Int) := by omega
    have h0 : (0 : Int) ≤ (i : Int) := by omega
    have hm : d.Durable.getD i dGDirEntry ∈ d.Durable := by
      have := List.drop_subset i d.Durable; rw [getD_drop (d := dGDirEntry) (show i < d.Durable.length by omega)] at this; exact this (by simp)
    have hsz := hb.dn _ hm
    obtain ⟨e, he⟩ : ∃ e, d.Durable.getD i dGDirEntry = e := ⟨_, rfl⟩
    rw [he] at hsz
    have ih := check_l2 n B d hb hn k (i + 1) m (by omega) (by omega)
    have hl3 := check_l3 n (fun a0 => lookoutref22_Check_l2 n d m a0) d e.Name e.Inode i (by omega) (by omega) i 0 n (by omega) (by omega)
    rw [List.drop_zero, ih] at hl3
    have hl3' : lookoutref22_Check_l3 n (fun a0 => lookoutref22_Check_l2 n d m a0) d n (i : Int) e.Name e.Inode 0 = _ := hl3
    simp only [lookoutref22_Check_l2, hlt, h0, decide_true, Bool.and_true, cond_true, toNat_c, he, name_eq n e.Name (by omega) (by omega), Option.bind_some, hl3', durB, okD]
    have tail : (bif decide (e.Inode < 0) then some (1 : Int) else bif decide (e.Inode ≥ (d.Inodes.length : Int)) then some 1 else bif usedE (d.Durable.take i) e.Inode then some 1 else bif durB d.Inodes.length d.Durable (i + 1) k then lookoutref22_Check_s5 n d else some 1) =
        bif (decide (0 ≤ e.Inode) && (decide (e.Inode < (d.Inodes.length : Int)) && !usedE (d.Durable.take i) e.Inode)) && durB d.Inodes.length d.Durable (i + 1) k then lookoutref22_Check_s5 n d else some 1 := by
      by_cases c1 : e.Inode < 0
      · simp only [c1, show ¬ (0 : Int) ≤ e.Inode by omega, decide_true, decide_false, cond_true, cond_false, Bool.false_and]
      · by_cases c2 : e.Inode ≥ (d.Inodes.length : Int)
        · simp only [c1, c2, show ¬ e.Inode < (d.Inodes.length : Int) by omega, decide_true, decide_false, cond_true, cond_false, Bool.false_and, Bool.and_false]
        · simp only [c1, c2, show (0 : Int) ≤ e.Inode by omega, show e.Inode < (d.Inodes.length : Int) by omega, decide_true, decide_false, cond_false, Bool.true_and]
          cases usedE (d.Durable.take i) e.Inode <;> rfl
    cases hnm : isNm e.Name with
    | false => simp only [Bool.not_false, cond_true, Bool.false_and, cond_false]
    | true =>
      simp only [Bool.not_true, cond_false, Bool.true_and]
      by_cases hi : i = 0
      · have : ¬ (i : Int) > 0 := by omega
        simp only [this, decide_false, cond_false, hi, decide_true, Bool.true_or, Bool.true_and]
        rw [hi] at tail
        exact tail
      · have hgt : (i : Int) > 0 := by omega
        obtain ⟨j, rfl⟩ : ∃ j, i = j + 1 := ⟨i - 1, by omega⟩
        have hp := wrp j (by omega)
        have q1 : (0 : Int) ≤ (j : Int) := by omega
        have q2 : (j : Int) < (d.Durable.length : Int) := by omega
        simp only [hgt, hp, q1, q2, decide_true, Bool.and_true, cond_true, toNat_c, Nat.add_sub_cancel, show ¬ (j + 1 = 0) by omega, decide_false, Bool.false_or, sGe_eq]
        by_cases hl : ky (d.Durable.getD j dGDirEntry).Name < ky e.Name
        · simp only [hl, decide_true, Bool.not_true, cond_false, Bool.true_and]
          exact tail
        · simp only [hl, decide_false, Bool.not_false, cond_true, Bool.false_and, cond_false]

theorem check_s5 (n B : Nat) (d : GDisk) (hb : Bd B d) (hn : 4 * B + 20 ≤ n) : lookoutref22_Check_s5 n d = some (bif (cur d).2 then 0 else 1) := by
  have hB := hb.big; have h1 := hb.dl; have h2 := hb.pl
  simp only [lookoutref22_Check_s5, after_eq n d.Durable d.Pending (d.Inodes.length : Int) B hb.pn (by omega) (by omega) (by omega), Option.bind_some]
  show _ = some (bif (aft (d.Inodes.length : Int) d.Pending d.Durable).2 then 0 else 1)
  cases (aft (d.Inodes.length : Int) d.Pending d.Durable).2 <;> rfl

theorem check_l0 (n B : Nat) (d : GDisk) (hb : Bd B d) (hn : 4 * B + 20 ≤ n) : ∀ (k i m : Nat), i + k = d.Inodes.length → k < m →
    lookoutref22_Check_l0 n d m (i : Int) = bif (d.Inodes.drop i).all okI && durA d then some (bif (cur d).2 then 0 else 1) else some 1
  | k, i, 0, _, h => by omega
  | 0, i, m + 1, h, _ => by
    have hB := hb.big; have hdl := hb.dl; have hil := hb.il
    have : ¬ ((i : Int) < (d.Inodes.length : Int)) := by omega
    have h2 : d.Inodes.drop i = [] := List.drop_eq_nil_of_le (by omega)
    have hc := check_l2 n B d hb (by omega) d.Durable.length 0 n (by omega) (by omega)
    simp only [lookoutref22_Check_l0, lookoutref22_Check_s1, this, decide_false, cond_false, h2, List.all_nil, Bool.true_and]
    refine Eq.trans hc ?_
    rw [check_s5 n B d hb hn]; rfl
  | k + 1, i, m + 1, h, h2 => by
    have hB := hb.big; have hil := hb.il
    have hw := wr1 i (by omega)
    have hlt : (i : Int) < (d.Inodes.length : Int) := by omega
    have h0 : (0 : Int) ≤ (i : Int) := by omega
    rw [getD_drop (d := dGInode) (show i < d.Inodes.length by omega)]
    obtain ⟨x, hx⟩ : ∃ x, d.Inodes.getD i dGInode = x := ⟨_, rfl⟩
    have ih := check_l0 n B d hb hn k (i + 1) m (by omega) (by omega)
    simp only [lookoutref22_Check_l0, hlt, h0, decide_true, Bool.and_true, cond_true, toNat_c, hw, hx, List.all_cons, ih, okI]
    by_cases c1 : (x.Data.size : Int) > 1048576
    · simp only [c1, show ¬ x.Data.size ≤ 1048576 by omega, decide_true, decide_false, cond_true, cond_false, Bool.false_and]
    · by_cases c2 : x.Synced < 0
      · simp only [c1, c2, show ¬ 0 ≤ x.Synced by omega, decide_true, decide_false, cond_true, cond_false, Bool.false_and, Bool.and_false]
      · by_cases c3 : x.Synced > (x.Data.size : Int)
        · simp only [c1, c2, c3, show ¬ x.Synced ≤ (x.Data.size : Int) by omega, decide_true, decide_false, cond_true, cond_false, Bool.false_and, Bool.and_false]
        · simp only [c1, c2, c3, show x.Data.size ≤ 1048576 by omega, show 0 ≤ x.Synced by omega, show x.Synced ≤ (x.Data.size : Int) by omega, decide_true, decide_false, cond_true, cond_false, Bool.true_and]

theorem refCheck_eq (n B : Nat) (d : GDisk) (hb : Bd B d) (hn : 4 * B + 30 ≤ n) : lookoutref22_Check n d = some (bif valid d then 0 else 1) := by
  obtain ⟨m, rfl⟩ : ∃ m, n = m + 1 := ⟨n - 1, by omega⟩
  have hB := hb.big; have hdl := hb.dl; have hil := hb.il
  simp only [lookoutref22_Check, valid]
  by_cases c1 : (d.Inodes.length : Int) > 1000
  · simp only [c1, show ¬ d.Inodes.length ≤ 1000 by omega, decide_true, decide_false, cond_true, cond_false, Bool.false_and]
  · simp only [c1, show d.Inodes.length ≤ 1000 by omega, decide_true, decide_false, cond_false, Bool.true_and]
    by_cases c2 : (d.Durable.length : Int) > (d.Inodes.length : Int)
    · have : durA d = false := by
        cases hd : durA d with
        | false => rfl
        | true => have := durA_bound (by omega) (by omega) hd; omega
      simp only [c2, this, decide_true, cond_true, Bool.false_and, Bool.and_false, cond_false]
    · simp only [c2, decide_false, cond_false]
      by_cases c3 : (d.Pending.length : Int) > 1000
      · simp only [c3, show ¬ d.Pending.length ≤ 1000 by omega, decide_true, decide_false, cond_true, cond_false, Bool.false_and]
      · simp only [c3, show d.Pending.length ≤ 1000 by omega, decide_true, decide_false, cond_false, Bool.true_and]
        by_cases c4 : d.Left < -1
        · simp only [c4, show ¬ -1 ≤ d.Left by omega, decide_true, decide_false, cond_true, cond_false, Bool.false_and]
        · simp only [c4, show -1 ≤ d.Left by omega, decide_true, decide_false, cond_false, Bool.true_and]
          have := check_l0 m B d hb (by omega) d.Inodes.length 0 m (by omega) (by omega)
          refine Eq.trans this ?_
          rw [List.drop_zero]
          cases d.Inodes.all okI <;> cases durA d <;> cases (cur d).2 <;> rfl

theorem check_eq (n B : Nat) (d : GDisk) (hb : Bd B d) (hn : B + 1110 ≤ n) : disk_Check n d = some (bif valid d then 0 else 1) := by
  obtain ⟨m, rfl⟩ : ∃ m, n = m + 1 := ⟨n - 1, by omega⟩
  have hB := hb.big; have hdl := hb.dl
  obtain ⟨r, h1, h2⟩ := current_eq m d (by omega) (by omega)
  simp only [disk_Check, h1, Option.bind_some]
  unfold curOut at h2
  cases hv : valid d with
  | true =>
    rw [if_pos hv] at h2
    obtain ⟨f, t, rfl, _⟩ := h2; rfl
  | false =>
    rw [if_neg (by simp [hv])] at h2
    cases r with
    | c0 a => rfl
    | c1 a b c => rfl
    | c2 a f t => exact absurd rfl (h2 a f t)

/-- The current directory of a valid disk. -/
theorem cur_rd {d : GDisk} (hv : valid d = true) (hD : d.Durable.length ≤ 1000000000) : ∃ f t, Rd d.Inodes.length f t (cur d).1 := by
  obtain ⟨r, h1, h2⟩ := current_eq (d.Durable.length + 1101) d (by omega) hD
  unfold curOut at h2
  rw [if_pos hv] at h2
  obtain ⟨f, t, _, h⟩ := h2
  exact ⟨f, t, h⟩
theorem valid_il {d : GDisk} (hv : valid d = true) : d.Inodes.length ≤ 1000 ∧ d.Pending.length ≤ 1000 ∧ -1 ≤ d.Left ∧ d.Inodes.all okI = true ∧ durA d = true ∧ (cur d).2 = true := by
  simpa [valid, and_assoc] using hv
theorem cur_len {d : GDisk} (hv : valid d = true) (hD : d.Durable.length ≤ 1000000000) : (cur d).1.length ≤ 1000 := by
  obtain ⟨f, t, h⟩ := cur_rd hv hD
  have := h.bound; have := (valid_il hv).1; omega

/-- What finding a file gives. -/
def fnd (d : GDisk) (name : ByteArray) : Int × Int := bif valid d then (match lkE name (cur d).1 with | none => (0, 7) | some i => (i, 0)) else (0, 1)
theorem find_d (n B : Nat) (d : GDisk) (name : ByteArray) (hb : Bd B d) (hn : B + 1110 ≤ n) : disk_find n d name = some (fnd d name) := by
  obtain ⟨m, rfl⟩ : ∃ m, n = m + 1 := ⟨n - 1, by omega⟩
  have hB := hb.big; have hdl := hb.dl
  obtain ⟨r, h1, h2⟩ := current_eq m d (by omega) (by omega)
  simp only [disk_find, h1, Option.bind_some, fnd]
  unfold curOut at h2
  cases hv : valid d with
  | true =>
    rw [if_pos hv] at h2
    obtain ⟨f, t, rfl, hR⟩ := h2
    simp only [cond_true, lk_is hR, hR.lks, Bool.not_not]
    cases lkE name (cur d).1 <;> rfl
  | false =>
    rw [if_neg (by simp [hv])] at h2
    cases r with
    | c0 a => rfl
    | c1 a b c => rfl
    | c2 a f t => exact absurd rfl (h2 a f t)
theorem refCur_eq (n B : Nat) (d : GDisk) (hb : Bd B d) (hn : 4 * B + 30 ≤ n) : lookoutref22_current n d = some (cur d).1 := by
  obtain ⟨m, rfl⟩ : ∃ m, n = m + 1 := ⟨n - 1, by omega⟩
  have hB := hb.big; have h1 := hb.dl; have h2 := hb.pl
  simp only [lookoutref22_current, after_eq m d.Durable d.Pending (d.Inodes.length : Int) B hb.pn (by omega) (by omega) (by omega), Option.bind_some]
  rfl
theorem find_r (n B : Nat) (d : GDisk) (name : ByteArray) (hb : Bd B d) (hn : 4 * B + 1100 ≤ n) : lookoutref22_inode n d name = some (fnd d name) := by
  obtain ⟨m, rfl⟩ : ∃ m, n = m + 1 := ⟨n - 1, by omega⟩
  have hB := hb.big; have hdl := hb.dl
  simp only [lookoutref22_inode, refCheck_eq m B d hb (by omega), Option.bind_some, fnd]
  cases hv : valid d with
  | false => rfl
  | true =>
    have hl := cur_len hv (by omega)
    obtain ⟨i1, i2⟩ := ix_lk name (cur d).1
    simp only [cond_true, show ((0 : Int) != 0) = false by rfl, cond_false, refCur_eq m B d hb (by omega), Option.bind_some, find_eq m (cur d).1 name (by omega) (by omega)]
    cases hx : ixE name (cur d).1 with
    | none => rw [hx] at i1; rw [← i1]; rfl
    | some j =>
      rw [hx] at i1
      have hj := i2 j hx
      rw [← i1]
      simp only [Option.map_some, show ¬ ((j : Int) < 0) by omega, show (0 : Int) ≤ (j : Int) by omega, show (j : Int) < ((cur d).1.length : Int) by omega, decide_false, decide_true, Bool.and_true, cond_false, cond_true, toNat_c]
theorem fnd_in {d : GDisk} {name : ByteArray} (hD : d.Durable.length ≤ 1000000000) (h : (fnd d name).2 = 0) : valid d = true ∧ 0 ≤ (fnd d name).1 ∧ (fnd d name).1 < d.Inodes.length := by
  unfold fnd at *
  cases hv : valid d with
  | false => rw [hv] at h; simp at h
  | true =>
    obtain ⟨f, t, hR⟩ := cur_rd hv hD
    rw [hv] at h
    simp only [cond_true] at *
    cases hl : lkE name (cur d).1 with
    | none => rw [hl] at h; simp at h
    | some i => exact ⟨trivial, rng_of hR hl⟩

/-- Reading. -/
def rdF (d : GDisk) (name : ByteArray) : ByteArray × Int := bif (fnd d name).2 == 0 then ((d.Inodes.getD (fnd d name).1.toNat dGInode).Data, 0) else (bE, (fnd d name).2)
theorem read_d (n B : Nat) (d : GDisk) (name : ByteArray) (hb : Bd B d) (hn : B + 1120 ≤ n) : disk_Read n d name = some (rdF d name) := by
  obtain ⟨m, rfl⟩ : ∃ m, n = m + 1 := ⟨n - 1, by omega⟩
  have hB := hb.big; have hdl := hb.dl
  simp only [disk_Read, find_d m B d name hb (by omega), Option.bind_some, rdF, bne]
  cases h : (fnd d name).2 == 0 with
  | false => rfl
  | true =>
    obtain ⟨_, h1, h2⟩ := fnd_in (name := name) (d := d) (by omega) (by simpa using h)
    simp only [Bool.not_true, cond_false, cond_true, h1, h2, decide_true, Bool.and_true]
theorem read_r (n B : Nat) (d : GDisk) (name : ByteArray) (hb : Bd B d) (hn : 4 * B + 1110 ≤ n) : lookoutref22_Read n d name = some (rdF d name) := by
  obtain ⟨m, rfl⟩ : ∃ m, n = m + 1 := ⟨n - 1, by omega⟩
  have hB := hb.big; have hdl := hb.dl
  simp only [lookoutref22_Read, find_r m B d name hb (by omega), Option.bind_some, rdF, bne]
  cases h : (fnd d name).2 == 0 with
  | false => rfl
  | true =>
    obtain ⟨_, h1, h2⟩ := fnd_in (name := name) (d := d) (by omega) (by simpa using h)
    simp only [Bool.not_true, cond_false, cond_true, h1, h2, decide_true, Bool.and_true]

/-- The names. -/
def lsF (d : GDisk) : List ByteArray := bif valid d then (cur d).1.map (·.Name) else []
theorem sorted_rd {N : Nat} {f : List (ByteArray × Int)} {t : List Bool} {l : Dir} (h : Rd N f t l) (n : Nat) (hn : 1 ≤ n) (hl : l.length ≤ 1000000000) : sortedKeys n f = some (l.map (·.Name)) := by
  obtain ⟨m, rfl⟩ : ∃ m, n = m + 1 := ⟨n - 1, by omega⟩
  have hnm := h.names
  have hlen : f.length = l.length := by
    have := (perm_isort (f.map (·.1))).length_eq
    rw [hnm] at this; simpa using this.symm
  have hsz : f.all (fun p => decide (p.1.size ≤ 9223372036854775807)) = true := List.all_eq_true.2 fun p hp => by
    have h1 : p.1 ∈ isort (f.map (·.1)) := (perm_isort _).mem_iff.2 (List.mem_map.2 ⟨p, hp, rfl⟩)
    rw [hnm] at h1
    obtain ⟨e, he, e1⟩ := List.mem_map.1 h1
    have h2 := h.nms e he
    simp only [isNm, Bool.and_eq_true, decide_eq_true_eq] at h2
    rw [e1] at h2
    exact decide_eq_true (by omega)
  simp only [sortedKeys, hsz, show f.length * 16 ≤ 140737488355328 by omega, decide_true, Bool.true_and, cond_true, hnm]
end Go.Proofs.YtkignmhjbjgkoaaGreat
