/- Plain laws, 10: the reference's operations; DiskChanges, DiskRun. -/
import Derived.Test.YtkignmhjbjgkoaaGreatSp9
set_option linter.unusedVariables false
set_option linter.unusedSimpArgs false
namespace Go.Proofs.YtkignmhjbjgkoaaGreat
open Go Go.AM

theorem powered_eq (n : Nat) (d next : GDisk) (hn : 1 ≤ n) (hw : Lw d) : lookoutref22_powered n d next = some (prf d next) := by
  obtain ⟨m, rfl⟩ : ∃ m, n = m + 1 := ⟨n - 1, by omega⟩
  have h1 := hw.lo; have h2 := hw.hi
  simp only [lookoutref22_powered, lookoutref22_powered_s0, prf]
  by_cases c : d.Left = 0
  · simp [c]
  · have e : (d.Left == 0) = false := by simpa using c
    rw [e]; simp only [cond_false]
    rw [if_neg c]
    by_cases c2 : d.Left > 0
    · simp only [c2, decide_true, cond_true, if_true, wr (d.Left - 1) (by omega) (by omega)]
    · simp only [c2, decide_false, cond_false, if_false]
theorem app_ok0 {n b : Nat} (h : n * b ≤ 140737488355328) (hb : 1 ≤ b) : (true && (decide ((0 + n) * b ≤ 140737488355328) && decide (0 + n ≤ 9223372036854775807))) = true := by
  have h1 : n * 1 ≤ n * b := Nat.mul_le_mul_left n hb
  simp only [Bool.true_and, Bool.and_eq_true, decide_eq_true_eq, Nat.zero_add]
  omega
theorem changed_eq (n : Nat) (d : GDisk) (i : Int) (x : GInode) (hn : 2 ≤ n) (h0 : 0 ≤ i) (h1 : i < d.Inodes.length) (hl : d.Inodes.length ≤ 1000) (hw : Lw d) : lookoutref22_changed n d i x = some (prf d (chg d i.toNat x)) := by
  obtain ⟨m, rfl⟩ : ∃ m, n = m + 2 := ⟨n - 2, by omega⟩
  have w1 := hw.lo; have w2 := hw.hi
  have hpos : 0 < d.Inodes.length := by omega
  have hb : i.toNat < d.Inodes.length := by omega
  have hble : Nat.ble d.Inodes.length (d.Inodes.set i.toNat x).length = true := by rw [List.length_set]; exact Nat.ble_eq_true_of_le (Nat.le_refl _)
  have htk : (d.Inodes.set i.toNat x).take d.Inodes.length = d.Inodes.set i.toNat x := List.take_of_length_le (by rw [List.length_set]; exact Nat.le_refl _)
  simp only [lookoutref22_changed, app_ok0 (n := d.Inodes.length) (b := 24) (by omega) (by omega), cond_true, hpos, decide_true, h0, h1, Bool.and_true, blt_of hb, lookoutref22_powered_v2, lookoutref22_powered_v2_s0, prf, chg]
  by_cases c : d.Left = 0
  · simp [c]
  · have e : (d.Left == 0) = false := by simpa using c
    rw [e]; simp only [cond_false]
    rw [if_neg c]
    by_cases c2 : d.Left > 0
    · simp only [c2, decide_true, cond_true, if_true, wr (d.Left - 1) (by omega) (by omega), Option.bind_some, hble, htk]
    · simp only [c2, decide_false, cond_false, if_false, Option.bind_some, hble, htk, cond_true]
theorem pending_eq (n : Nat) (d : GDisk) (x : GDirOp) (hn : 2 ≤ n) (hl : d.Pending.length ≤ 1000) (hI : d.Inodes.length ≤ 1000) (hw : Lw d) : lookoutref22_pending n d x = some (if d.Pending.length ≥ 1000 then no 18 else prf d ⟨if x.Kind = 1 then d.Inodes ++ [⟨bE, 0⟩] else d.Inodes, d.Durable, d.Pending ++ [x], d.Left⟩) := by
  obtain ⟨m, rfl⟩ : ∃ m, n = m + 1 := ⟨n - 1, by omega⟩
  simp only [lookoutref22_pending]
  by_cases c : d.Pending.length ≥ 1000
  · rw [if_pos c]; simp only [show (d.Pending.length : Int) ≥ 1000 by omega, decide_true, cond_true]; rfl
  · rw [if_neg c]
    simp only [show ¬ (d.Pending.length : Int) ≥ 1000 by omega, decide_false, cond_false, app_ok0 (n := d.Pending.length) (b := 48) (by omega) (by omega), app_ok (n := d.Pending.length) (b := 48) (by omega) (by omega), app_ok0 (n := d.Inodes.length) (b := 24) (by omega) (by omega), app_ok (n := d.Inodes.length) (b := 24) (by omega) (by omega), cond_true,
      lookoutref22_pending_s0, lookoutref22_pending_s1, powered_eq m d _ (show 1 ≤ m by omega) hw, Option.bind_some]
    by_cases k : x.Kind = 1
    · rw [if_pos k]; simp only [k, show ((1 : Int) == 1) = true by rfl, cond_true]
    · rw [if_neg k]
      have e : (x.Kind == 1) = false := by simpa using k
      simp only [e, cond_false]

theorem create_r (n B : Nat) (d : GDisk) (name : ByteArray) (hb : Bd B d) (hw : Lw d) (hn : 4 * B + 1200 ≤ n) (hs : name.size + 10 ≤ n) (hs2 : name.size ≤ 1000000000) : lookoutref22_Create n d name = some (crtF d name) := by
  obtain ⟨m, rfl⟩ : ∃ m, n = m + 1 := ⟨n - 1, by omega⟩
  have hB := hb.big; have hdl := hb.dl
  simp only [lookoutref22_Create, find_r m B d name hb (by omega), Option.bind_some, crtF, fnd]
  cases hv : valid d with
  | false => rfl
  | true =>
    obtain ⟨i1, i2, i3, i4, i5, i6⟩ := valid_il hv
    simp only [cond_true, Bool.true_eq_false, if_false, name_eq m name (by omega) (by omega), Option.bind_some]
    have hp := pending_eq m d ⟨1, name, bE, (d.Inodes.length : Int)⟩ (by omega) i2 i1 hw
    cases hl : lkE name (cur d).1 with
    | none =>
      simp only [show ((7 : Int) == 1) = false by rfl, show ((7 : Int) == 0) = false by rfl, cond_false, Option.isNone_none, Bool.true_eq_false, if_false]
      cases hnm : isNm name with
      | false => rfl
      | true =>
        simp only [Bool.not_true, cond_false, Bool.true_eq_false, if_false]
        by_cases c1 : d.Inodes.length ≥ 1000
        · rw [if_pos c1]; simp only [show (d.Inodes.length : Int) ≥ 1000 by omega, decide_true, cond_true]; rfl
        · rw [if_neg c1]; simp only [show ¬ (d.Inodes.length : Int) ≥ 1000 by omega, decide_false, cond_false, hp, Option.bind_some, if_true]
    | some i =>
      simp only [show ((0 : Int) == 1) = false by rfl, show ((0 : Int) == 0) = true by rfl, cond_false, cond_true, Option.isNone_some, if_true]
      cases hnm : isNm name with
      | false => rfl
      | true => rfl
theorem sync_r (n B : Nat) (d : GDisk) (name : ByteArray) (hb : Bd B d) (hw : Lw d) (hn : 4 * B + 1200 ≤ n) : lookoutref22_Sync n d name = some (synF d name) := by
  obtain ⟨m, rfl⟩ : ∃ m, n = m + 1 := ⟨n - 1, by omega⟩
  have hB := hb.big; have hdl := hb.dl
  simp only [lookoutref22_Sync, find_r m B d name hb (by omega), Option.bind_some, synF]
  by_cases he : (fnd d name).2 = 0
  · obtain ⟨o1, o2, o3, o4, o5, o6⟩ := file_ok (by omega) he
    have hx : d.Inodes.getD (fnd d name).1.toNat dGInode = file d name := rfl
    simp only [he, show ((0 : Int) != 0) = false by rfl, cond_false, o3, o4, decide_true, Bool.and_true, cond_true, hx, ne_eq, not_true_eq_false, if_false, changed_eq m d (fnd d name).1 _ (by omega) o3 o4 o5 hw, Option.bind_some]
    rfl
  · have e : ((fnd d name).2 != 0) = true := by simpa [bne] using he
    rw [if_pos he]
    simp only [e, cond_true]; rfl
theorem truncate_r (n B : Nat) (d : GDisk) (name : ByteArray) (size : Int) (hb : Bd B d) (hw : Lw d) (hn : 4 * B + 1200 ≤ n) : lookoutref22_Truncate n d name size = some (truF d name size) := by
  obtain ⟨m, rfl⟩ : ∃ m, n = m + 1 := ⟨n - 1, by omega⟩
  have hB := hb.big; have hdl := hb.dl
  simp only [lookoutref22_Truncate, find_r m B d name hb (by omega), Option.bind_some, truF]
  by_cases he : (fnd d name).2 = 0
  · obtain ⟨o1, o2, o3, o4, o5, o6⟩ := file_ok (by omega) he
    have hx : d.Inodes.getD (fnd d name).1.toNat dGInode = file d name := rfl
    simp only [he, show ((0 : Int) != 0) = false by rfl, cond_false, o3, o4, decide_true, Bool.and_true, cond_true, hx, ne_eq, not_true_eq_false, if_false]
    by_cases c1 : size < 0
    · rw [if_pos c1]; simp only [c1, decide_true, cond_true]; rfl
    · rw [if_neg c1]
      by_cases c2 : size > ((file d name).Data.size : Int)
      · rw [if_pos c2]; simp only [c1, c2, decide_true, decide_false, cond_true, cond_false]; rfl
      · rw [if_neg c2]
        simp only [c1, c2, show (0 : Int) ≤ 0 by omega, show (0 : Int) ≤ size by omega, show size ≤ ((file d name).Data.size : Int) by omega, decide_true, decide_false, Bool.and_true, cond_true, cond_false, changed_eq m d (fnd d name).1 _ (by omega) o3 o4 o5 hw, Option.bind_some, Bool.cond_decide]
        rfl
  · have e : ((fnd d name).2 != 0) = true := by simpa [bne] using he
    rw [if_pos he]
    simp only [e, cond_true]; rfl

/-! ### SyncDir -/
def inn (d : GDisk) (l : Dir) (i : Nat) (j : Nat) : Nat → List GInode × Dir → List GInode × Dir
  | 0, s => s
  | k + 1, s => bif (l.getD j dGDirEntry).Inode == (i : Int) then inn d l i (j + 1) k (s.1 ++ [d.Inodes.getD i dGInode], s.2.set j ⟨(s.2.getD j dGDirEntry).Name, (s.1.length : Int)⟩) else inn d l i (j + 1) k s
theorem srt_inj {l : Dir} (h : Srt l) {a b : Nat} (ha : a < l.length) (hb : b < l.length) (e : l.getD a dGDirEntry = l.getD b dGDirEntry) : a = b := by
  have hg : ∀ {c : Nat} (hc : c < l.length), l.getD c dGDirEntry = l[c] := fun hc => by simp [List.getD, List.getElem?_eq_getElem hc]
  rw [hg ha, hg hb] at e
  rcases Nat.lt_trichotomy a b with h1 | h1 | h1
  · have := List.pairwise_iff_getElem.1 h a b ha hb h1; rw [e] at this; exact absurd this (ky_lt_irrefl _)
  · exact h1
  · have := List.pairwise_iff_getElem.1 h b a hb ha h1; rw [e] at this; exact absurd this (ky_lt_irrefl _)
theorem inn_none (d : GDisk) (l : Dir) (i : Nat) : ∀ (k j : Nat) (s : List GInode × Dir), j + k = l.length → (∀ q, j ≤ q → q < l.length → (l.getD q dGDirEntry).Inode ≠ (i : Int)) → inn d l i j k s = s
  | 0, j, s, _, _ => rfl
  | k + 1, j, s, h, hno => by
    have e : ((l.getD j dGDirEntry).Inode == (i : Int)) = false := by simpa using hno j (Nat.le_refl _) (by omega)
    simp only [inn, e, cond_false]
    exact inn_none d l i k (j + 1) s (by omega) (fun q h1 h2 => hno q (by omega) h2)
theorem inn_some (d : GDisk) (l : Dir) (hs : Srt l) (hind : ∀ a ∈ l, ∀ b ∈ l, a.Inode = b.Inode → a = b) (i q : Nat) (hq : q < l.length) (hqi : (l.getD q dGDirEntry).Inode = (i : Int)) : ∀ (k j : Nat) (s : List GInode × Dir), j + k = l.length → j ≤ q →
    inn d l i j k s = (s.1 ++ [d.Inodes.getD i dGInode], s.2.set q ⟨(s.2.getD q dGDirEntry).Name, (s.1.length : Int)⟩)
  | 0, j, s, h, hj => by omega
  | k + 1, j, s, h, hj => by
    have hu : ∀ p, p < l.length → (l.getD p dGDirEntry).Inode = (i : Int) → p = q := fun p hp hpi => srt_inj hs hp hq (hind _ (getD_mem hp) _ (getD_mem hq) (hpi.trans hqi.symm))
    by_cases e : j = q
    · subst e
      have e1 : ((l.getD j dGDirEntry).Inode == (i : Int)) = true := by simpa using hqi
      simp only [inn, e1, cond_true]
      exact inn_none d l i k (j + 1) _ (by omega) (fun p h1 h2 h3 => by have := hu p h2 h3; omega)
    · have e1 : ((l.getD j dGDirEntry).Inode == (i : Int)) = false := by
        simp only [beq_eq_false_iff_ne, ne_eq]
        intro h3; exact e (hu j (by omega) h3)
      simp only [inn, e1, cond_false]
      exact inn_some d l hs hind i q hq hqi k (j + 1) s (by omega) (by omega)
theorem rsync_l6 (n B : Nat) (d : GDisk) (hb : Bd B d) (hn : 4 * B + 1200 ≤ n) (k_l5 : List GInode → Int → List GDirEntry → Option (GDisk × Int)) (l : Dir) (hl : l = (cur d).1) (hll : l.length ≤ 1000) (hI : d.Inodes.length ≤ 1000) (i : Nat) (hi : i < d.Inodes.length) : ∀ (k j m : Nat) (s : List GInode × Dir), j + k = l.length → s.2.length = l.length → s.1.length + k ≤ 10000000 → k < m →
    lookoutref22_SyncDir_l6 n k_l5 d l m s.1 (i : Int) (j : Int) s.2 = k_l5 (inn d l i j k s).1 ((i + 1 : Nat) : Int) (inn d l i j k s).2
  | k, j, 0, s, _, _, _, h => by omega
  | 0, j, m + 1, s, h, _, _, _ => by
    have : ¬ ((j : Int) < (l.length : Int)) := by omega
    simp only [lookoutref22_SyncDir_l6, lookoutref22_SyncDir_s8, this, decide_false, cond_false, inn, wr1 i (by omega)]
  | k + 1, j, m + 1, s, h, h1, h2, h3 => by
    have hlt : (j : Int) < (l.length : Int) := by omega
    have hlt2 : (j : Int) < ((cur d).1.length : Int) := by rw [← hl]; omega
    have h0 : (0 : Int) ≤ (j : Int) := by omega
    have hbs : j < s.2.length := by omega
    have hc := refCur_eq n B d hb (by omega)
    simp only [lookoutref22_SyncDir_l6, lookoutref22_SyncDir_s7, hlt, hlt2, h0, decide_true, Bool.and_true, cond_true, toNat_c, hc, Option.bind_some, blt_of hbs, show (0 : Int) ≤ (i : Int) by omega, show (i : Int) < (d.Inodes.length : Int) by omega, app_ok (n := s.1.length) (b := 24) (by omega) (by omega), wr1 j (by omega), inn, ← hl]
    cases he : (l.getD j dGDirEntry).Inode == (i : Int) with
    | false =>
      simp only [cond_false]
      exact rsync_l6 n B d hb hn k_l5 l hl hll hI i hi k (j + 1) m s (by omega) h1 (by omega) (by omega)
    | true =>
      simp only [cond_true]
      exact rsync_l6 n B d hb hn k_l5 l hl hll hI i hi k (j + 1) m (s.1 ++ [d.Inodes.getD i dGInode], s.2.set j ⟨(s.2.getD j dGDirEntry).Name, (s.1.length : Int)⟩) (by omega) (by simpa using h1) (by simp; omega) (by omega)

/-- The directory after the inodes ahead of number i. -/
def dst (l : Dir) (i : Nat) : Dir := l.map fun e => if e.Inode < (i : Int) then rnkE l e else e
theorem dst_get {l : Dir} {i q : Nat} (hq : q < l.length) : (dst l i).getD q dGDirEntry = (if (l.getD q dGDirEntry).Inode < (i : Int) then rnkE l (l.getD q dGDirEntry) else l.getD q dGDirEntry) := by
  simp [dst, List.getD, List.getElem?_eq_getElem hq]
theorem inn_dst (d : GDisk) (l : Dir) (hs : Srt l) (hind : ∀ a ∈ l, ∀ b ∈ l, a.Inode = b.Inode → a = b) (i : Nat) (acc : List GInode) (ha : acc.length = rnk l i) :
    inn d l i 0 l.length (acc, dst l i) = (acc ++ acI d l i 1, dst l (i + 1)) ∧ (acc ++ acI d l i 1).length = rnk l (i + 1) := by
  cases hu : usedE l (i : Int) with
  | false =>
    have hno : ∀ q, 0 ≤ q → q < l.length → (l.getD q dGDirEntry).Inode ≠ (i : Int) := fun q _ hq hh => by
      rw [usedE_iff.2 ⟨_, getD_mem hq, hh⟩] at hu; cases hu
    rw [inn_none d l i l.length 0 _ (by omega) hno]
    simp only [acI, hu, cond_false, List.append_nil, rnk]
    refine ⟨?_, ha⟩
    congr 1
    refine List.map_congr_left fun e he => ?_
    have hne : e.Inode ≠ (i : Int) := fun hh => by rw [usedE_iff.2 ⟨e, he, hh⟩] at hu; cases hu
    by_cases c : e.Inode < (i : Int)
    · rw [if_pos c, if_pos (by omega)]
    · rw [if_neg c, if_neg (by omega)]
  | true =>
    obtain ⟨e, he, hei⟩ := usedE_iff.1 hu
    obtain ⟨q, hq, hqe⟩ := List.getElem_of_mem he
    have hqg : l.getD q dGDirEntry = e := by simp [List.getD, List.getElem?_eq_getElem hq, hqe]
    rw [inn_some d l hs hind i q hq (by rw [hqg]; exact hei) l.length 0 _ (by omega) (by omega)]
    simp only [acI, hu, cond_true, rnk, List.length_append, List.length_singleton]
    refine ⟨?_, by omega⟩
    congr 1
    apply List.ext_getElem?
    intro p
    rw [List.getElem?_set]
    by_cases hp : q = p
    · subst hp
      rw [if_pos rfl, if_pos (by simpa [dst] using hq)]
      simp only [dst, List.getElem?_map, List.getElem?_eq_getElem hq, Option.map_some, hqe]
      have hd : (dst l i).getD q dGDirEntry = e := by rw [dst_get hq, hqg, if_neg (by omega)]
      rw [show (List.map (fun e => if e.Inode < (i : Int) then rnkE l e else e) l) = dst l i from rfl, hd]
      rw [if_pos (by omega)]
      simp only [rnkE, hei, ha]
      rfl
    · rw [if_neg hp]
      simp only [dst, List.getElem?_map]
      cases hlp : l[p]? with
      | none => rfl
      | some e' =>
        have hpl := (List.getElem?_eq_some_iff.1 hlp).1
        have hpg : l.getD p dGDirEntry = e' := by simp [List.getD, hlp]
        have hne : e'.Inode ≠ (i : Int) := fun hh => hp (srt_inj hs hq hpl (by rw [hqg, hpg]; exact hind e he e' (List.mem_of_getElem? hlp) (by omega)))
        simp only [Option.map_some]
        by_cases c : e'.Inode < (i : Int)
        · rw [if_pos c, if_pos (by omega)]
        · rw [if_neg c, if_neg (by omega)]
theorem acI_add (d : GDisk) (l : Dir) : ∀ (k i : Nat), acI d l i (k + 1) = acI d l i 1 ++ acI d l (i + 1) k := fun k i => by
  simp only [acI]; cases usedE l (i : Int) <;> simp
theorem powered_v2 (n : Nat) (d : GDisk) (a : List GInode) (D : Dir) (k : Nat) (hk : k = D.length) (hn : 1 ≤ n) (hw : Lw d) : lookoutref22_SyncDir_s9 n d D a D = some (prf d ⟨a, D, [], d.Left⟩) := by
  obtain ⟨m, rfl⟩ : ∃ m, n = m + 1 := ⟨n - 1, by omega⟩
  have w1 := hw.lo; have w2 := hw.hi
  have hble : Nat.ble D.length D.length = true := Nat.ble_eq_true_of_le (Nat.le_refl _)
  simp only [lookoutref22_SyncDir_s9, lookoutref22_powered_v1, lookoutref22_powered_v1_s0, prf]
  by_cases c : d.Left = 0
  · simp [c]
  · have e : (d.Left == 0) = false := by simpa using c
    rw [e]; simp only [cond_false]
    rw [if_neg c]
    by_cases c2 : d.Left > 0
    · simp only [c2, decide_true, cond_true, if_true, wr (d.Left - 1) (by omega) (by omega), Option.bind_some, hble, List.take_length]
    · simp only [c2, decide_false, cond_false, if_false, Option.bind_some, hble, List.take_length, cond_true]
theorem s9_len (n : Nat) (d : GDisk) (l D : Dir) (a : List GInode) (h : l.length = D.length) : lookoutref22_SyncDir_s9 n d l a D = lookoutref22_SyncDir_s9 n d D a D := by
  simp only [lookoutref22_SyncDir_s9, h]
theorem rsync_l5 (n B : Nat) (d : GDisk) (hb : Bd B d) (hw : Lw d) (hn : 4 * B + 1200 ≤ n) (l : Dir) (hl : l = (cur d).1) (hs : Srt l) (hind : ∀ a ∈ l, ∀ b ∈ l, a.Inode = b.Inode → a = b) (hrng : ∀ e ∈ l, 0 ≤ e.Inode ∧ e.Inode < d.Inodes.length) (hll : l.length ≤ 1000) (hI : d.Inodes.length ≤ 1000) : ∀ (k i m : Nat) (acc : List GInode), i + k = d.Inodes.length → acc.length = rnk l i → k < m →
    lookoutref22_SyncDir_l5 n d l m acc (i : Int) (dst l i) = some (prf d ⟨acc ++ acI d l i k, l.map (rnkE l), [], d.Left⟩)
  | k, i, 0, acc, _, _, h => by omega
  | 0, i, m + 1, acc, h, ha, _ => by
    have : ¬ ((i : Int) < (d.Inodes.length : Int)) := by omega
    have hd : dst l i = l.map (rnkE l) := List.map_congr_left fun e he => by rw [if_pos (by have := (hrng e he).2; omega)]
    simp only [lookoutref22_SyncDir_l5, this, decide_false, cond_false, acI, List.append_nil]
    rw [s9_len n d l (dst l i) acc (by simp [dst]), powered_v2 n d acc (dst l i) _ rfl (by omega) hw, hd]
  | k + 1, i, m + 1, acc, h, ha, h2 => by
    have hlt : (i : Int) < (d.Inodes.length : Int) := by omega
    have hr := rnk_le l i
    obtain ⟨e1, e2⟩ := inn_dst d l hs hind i acc ha
    have h6 := rsync_l6 n B d hb hn (fun a0 a1 a2 => lookoutref22_SyncDir_l5 n d l m a0 a1 a2) l hl hll hI i (by omega) l.length 0 n (acc, dst l i) (by omega) (by simp [dst]) (by simp only; omega) (by omega)
    rw [e1] at h6
    have h6' : lookoutref22_SyncDir_l6 n (fun a0 a1 a2 => lookoutref22_SyncDir_l5 n d l m a0 a1 a2) d l n acc (i : Int) 0 (dst l i) = _ := h6
    simp only [lookoutref22_SyncDir_l5, hlt, decide_true, cond_true, h6']
    rw [rsync_l5 n B d hb hw hn l hl hs hind hrng hll hI k (i + 1) m (acc ++ acI d l i 1) (by omega) e2 (by omega), acI_add d l k i, List.append_assoc]
theorem rsync_l1 (n : Nat) (d : GDisk) (k_l0 : Int → Option (GDisk × Int)) (i : Nat) (hi : i < 1000000) (m : Nat) : lookoutref22_SyncDir_l1 n k_l0 d [] (m + 1) (i : Int) 0 = k_l0 ((i + 1 : Nat) : Int) := by
  simp only [lookoutref22_SyncDir_l1, lookoutref22_SyncDir_s3, List.length_nil, show ¬ ((0 : Int) < ((0 : Nat) : Int)) by omega, decide_false, cond_false, wr1 i (by omega)]
theorem rsync_l0 (n : Nat) (d : GDisk) (hw : Lw d) (hn : 2 ≤ n) (hI : d.Inodes.length ≤ 1000) : ∀ (k i m : Nat), i + k = d.Inodes.length → k < m → lookoutref22_SyncDir_l0 n d [] m (i : Int) = some (prf d ⟨[], [], [], 0⟩)
  | k, i, 0, _, h => by omega
  | 0, i, m + 1, h, _ => by
    have : ¬ ((i : Int) < (d.Inodes.length : Int)) := by omega
    simp only [lookoutref22_SyncDir_l0, lookoutref22_SyncDir_s4, this, decide_false, cond_false, powered_eq n d _ (by omega) hw, Option.bind_some]
  | k + 1, i, m + 1, h, h2 => by
    obtain ⟨q, rfl⟩ : ∃ q, n = q + 1 := ⟨n - 1, by omega⟩
    simp only [lookoutref22_SyncDir_l0, show (i : Int) < (d.Inodes.length : Int) by omega, decide_true, cond_true, rsync_l1 (q + 1) d _ i (by omega) q]
    exact rsync_l0 (q + 1) d hw hn hI k (i + 1) m (by omega) (by omega)
theorem syncdir_r (n B : Nat) (d : GDisk) (hb : Bd B d) (hw : Lw d) (hn : 4 * B + 1300 ≤ n) : lookoutref22_SyncDir n d = some (sdF d) := by
  obtain ⟨m, rfl⟩ : ∃ m, n = m + 1 := ⟨n - 1, by omega⟩
  have hB := hb.big; have hdl := hb.dl
  simp only [lookoutref22_SyncDir, refCheck_eq m B d hb (by omega), Option.bind_some, sdF]
  cases hv : valid d with
  | false => rfl
  | true =>
    obtain ⟨i1, i2, i3, i4, i5, i6⟩ := valid_il hv
    obtain ⟨f, t, hR⟩ := cur_rd hv (by omega)
    have hll := hR.bound
    simp only [cond_true, show ((0 : Int) != 0) = false by rfl, cond_false, refCur_eq m B d hb (by omega), Option.bind_some, app_ok0 (n := (cur d).1.length) (b := 24) (by omega) (by omega), Bool.true_eq_false, if_false]
    by_cases hp : 0 < (cur d).1.length
    · simp only [hp, decide_true, cond_true]
      have hd : dst (cur d).1 0 = (cur d).1 := by
        have : (cur d).1 = (cur d).1.map id := by simp
        unfold dst
        conv => rhs; rw [this]
        exact List.map_congr_left fun e he => by rw [if_neg (by have := (hR.rng e he).1; omega)]; rfl
      have := rsync_l5 m B d hb hw (by omega) (cur d).1 rfl hR.srt hR.ind hR.rng (by omega) i1 d.Inodes.length 0 m [] (by omega) rfl (by omega)
      rw [hd] at this
      exact this
    · have hnil : (cur d).1 = [] := List.eq_nil_of_length_eq_zero (by omega)
      have hac : ∀ k i, acI d [] i k = [] := fun k => by
        induction k with
        | zero => intro i; rfl
        | succ k ih => intro i; simp only [acI, usedE, List.any_nil, cond_false]; exact ih (i + 1)
      simp only [hp, decide_false, cond_false, hnil, hac, List.map_nil]
      have := rsync_l0 m d hw (by omega) i1 d.Inodes.length 0 m (by omega) (by omega)
      exact this
theorem lw_of {d : GDisk} (hw : wfGDisk d) : Lw d := by
  have h := hw.2.2.2.1
  simp only [wfInt, Lit.wf, Bool.and_eq_true, decide_eq_true_eq] at h
  exact ⟨h.1, h.2⟩
theorem bg_of {d : GDisk} (hb : Bd 200 d) (h2 : d.Inodes.length ≤ 40) (h3 : d.Durable.length ≤ 40) (h4 : d.Pending.length ≤ 40) : Bg 80 d := ⟨hb.dn, hb.pn, by omega, by omega⟩

end Go.Proofs.YtkignmhjbjgkoaaGreat
