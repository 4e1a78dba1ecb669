/- Plain laws, 8: the program's operations. -/
import Derived.Test.YtkignmhjbjgkoaaGreatSp7
set_option linter.unusedVariables false
set_option linter.unusedSimpArgs false
namespace Go.Proofs.YtkignmhjbjgkoaaGreat
open Go Go.AM

/-- What is over when power is needed. -/
def prf (d next : GDisk) : GDisk × Int := if d.Left = 0 then (d, 19) else (⟨next.Inodes, next.Durable, next.Pending, if d.Left > 0 then d.Left - 1 else d.Left⟩, 0)
def no (e : Int) : GDisk × Int := (⟨[], [], [], 0⟩, e)
structure Lw (d : GDisk) : Prop where
  lo : -9223372036854775808 ≤ d.Left
  hi : d.Left ≤ 9223372036854775807
theorem perform_eq (n : Nat) (d next : GDisk) (hn : 1 ≤ n) (hL : next.Left = d.Left) (hw : Lw d) : disk_perform n d next = some (prf d next) := by
  obtain ⟨m, rfl⟩ : ∃ m, n = m + 1 := ⟨n - 1, by omega⟩
  have h1 := hw.lo; have h2 := hw.hi
  simp only [disk_perform, disk_perform_s0, prf]
  by_cases c : d.Left = 0
  · simp [c]
  · have e : (d.Left == 0) = false := by simpa using c
    rw [e]; simp only [cond_false]
    rw [if_neg c]
    by_cases c2 : d.Left > 0
    · simp only [c2, decide_true, cond_true, if_true, wr (d.Left - 1) (by omega) (by omega)]
    · simp only [c2, decide_false, cond_false, if_false, hL]

def chg (d : GDisk) (i : Nat) (x : GInode) : GDisk := ⟨d.Inodes.set i x, d.Durable, d.Pending, d.Left⟩
theorem change_eq (n : Nat) (d : GDisk) (i : Int) (x : GInode) (hn : 2 ≤ n) (h0 : 0 ≤ i) (h1 : i < d.Inodes.length) (hl : d.Inodes.length ≤ 1000) : disk_change n d i x = some (chg d i.toNat x) := by
  obtain ⟨m, rfl⟩ : ∃ m, n = m + 2 := ⟨n - 2, by omega⟩
  have hpos : 0 < d.Inodes.length := by omega
  have hb : i.toNat < d.Inodes.length := by omega
  have hck : (true && (decide ((0 + d.Inodes.length) * 24 ≤ 140737488355328) && decide (0 + d.Inodes.length ≤ 9223372036854775807))) = true := by
    simp only [Bool.true_and, Bool.and_eq_true, decide_eq_true_eq]; omega
  have hble : Nat.ble d.Inodes.length (d.Inodes.set i.toNat x).length = true := by rw [List.length_set]; exact Nat.ble_eq_true_of_le (Nat.le_refl _)
  have htk : (d.Inodes.set i.toNat x).take d.Inodes.length = d.Inodes.set i.toNat x := List.take_of_length_le (by rw [List.length_set]; exact Nat.le_refl _)
  simp only [disk_change, slices_Clone, hpos, hck, decide_true, cond_true, Option.bind_some, h0, h1, Bool.and_true, blt_of hb, hble, htk, chg]
theorem pend_eq (n : Nat) (d : GDisk) (x : GDirOp) (hn : 2 ≤ n) (hl : d.Pending.length ≤ 1000) : disk_pend n d x = some ⟨d.Inodes, d.Durable, d.Pending ++ [x], d.Left⟩ := by
  obtain ⟨m, rfl⟩ : ∃ m, n = m + 2 := ⟨n - 2, by omega⟩
  simp only [disk_pend, slices_Clip, show (0 : Int) ≤ 0 by omega, show (0 : Int) ≤ (d.Pending.length : Int) by omega, show ((d.Pending.length : Int) ≤ (d.Pending.length : Int)) by omega, decide_true, Bool.and_true, cond_true, Option.bind_some, app_ok (n := d.Pending.length) (b := 48) (by omega) (by omega)]

/-! ### The operations -/
def crtF (d : GDisk) (name : ByteArray) : GDisk × Int :=
  if valid d = false then no 1 else if isNm name = false then no 5 else if (lkE name (cur d).1).isNone = false then no 6 else if d.Inodes.length ≥ 1000 then no 18 else if d.Pending.length ≥ 1000 then no 18
  else prf d ⟨d.Inodes ++ [⟨bE, 0⟩], d.Durable, d.Pending ++ [⟨1, name, bE, (d.Inodes.length : Int)⟩], d.Left⟩
def ino (d : GDisk) (name : ByteArray) : Nat := (fnd d name).1.toNat
def file (d : GDisk) (name : ByteArray) : GInode := d.Inodes.getD (ino d name) dGInode
def appF (d : GDisk) (name data : ByteArray) : GDisk × Int :=
  if (fnd d name).2 ≠ 0 then no (fnd d name).2 else if (data.size : Int) > 1048576 - ((file d name).Data.size : Int) then no 18 else prf d (chg d (ino d name) ⟨(file d name).Data ++ data, (file d name).Synced⟩)
def synF (d : GDisk) (name : ByteArray) : GDisk × Int :=
  if (fnd d name).2 ≠ 0 then no (fnd d name).2 else prf d (chg d (ino d name) ⟨(file d name).Data, ((file d name).Data.size : Int)⟩)
def renF (d : GDisk) (name to : ByteArray) : GDisk × Int :=
  if (fnd d name).2 ≠ 0 then no (fnd d name).2 else if isNm to = false then no 5 else if to = name then no 6 else if d.Pending.length ≥ 1000 then no 18 else prf d ⟨d.Inodes, d.Durable, d.Pending ++ [⟨2, name, to, 0⟩], d.Left⟩
def remF (d : GDisk) (name : ByteArray) : GDisk × Int :=
  if (fnd d name).2 ≠ 0 then no (fnd d name).2 else if d.Pending.length ≥ 1000 then no 18 else prf d ⟨d.Inodes, d.Durable, d.Pending ++ [⟨3, name, bE, 0⟩], d.Left⟩
def truF (d : GDisk) (name : ByteArray) (size : Int) : GDisk × Int :=
  if (fnd d name).2 ≠ 0 then no (fnd d name).2 else if size < 0 then no 2 else if size > ((file d name).Data.size : Int) then no 2
  else prf d (chg d (ino d name) ⟨ByteArray.extract (file d name).Data 0 size.toNat, if size < (file d name).Synced then size else (file d name).Synced⟩)
/-- The inodes that have an entry, from number i on; how many have one ahead of number i. -/
def acI (d : GDisk) (l : Dir) (i : Nat) : Nat → List GInode
  | 0 => []
  | k + 1 => bif usedE l (i : Int) then d.Inodes.getD i dGInode :: acI d l (i + 1) k else acI d l (i + 1) k
def rnk (l : Dir) : Nat → Nat
  | 0 => 0
  | i + 1 => bif usedE l (i : Int) then rnk l i + 1 else rnk l i
def rnkE (l : Dir) (e : GDirEntry) : GDirEntry := ⟨e.Name, (rnk l e.Inode.toNat : Int)⟩
def sdF (d : GDisk) : GDisk × Int :=
  if valid d = false then no 1 else prf d ⟨acI d (cur d).1 0 d.Inodes.length, (cur d).1.map (rnkE (cur d).1), [], d.Left⟩

theorem create_f (n B : Nat) (d : GDisk) (name : ByteArray) (hb : Bd B d) (hw : Lw d) (hn : B + 1200 ≤ n) : disk_Create n d name = some (crtF d name) := by
  obtain ⟨m, rfl⟩ : ∃ m, n = m + 1 := ⟨n - 1, by omega⟩
  have hB := hb.big; have hdl := hb.dl
  obtain ⟨r, h1, h2⟩ := current_eq m d (by omega) (by omega)
  simp only [disk_Create, h1, Option.bind_some, crtF]
  unfold curOut at h2
  cases hv : valid d with
  | false =>
    rw [if_neg (by simp [hv])] at h2
    cases r with
    | c0 a => rfl
    | c1 a b c => rfl
    | c2 a f t => exact absurd rfl (h2 a f t)
  | true =>
    rw [if_pos hv] at h2
    obtain ⟨f, t, rfl, hR⟩ := h2
    obtain ⟨i1, i2, i3, i4, i5, i6⟩ := valid_il hv
    simp only [isName_eq m name (by omega), Option.bind_some, lk_is hR, Bool.true_eq_false, if_false]
    cases hnm : isNm name with
    | false => rfl
    | true =>
      cases hnn : (lkE name (cur d).1).isNone with
      | false => rfl
      | true =>
        simp only [Bool.not_true, cond_false, Bool.true_eq_false, if_false]
        by_cases c1 : d.Inodes.length ≥ 1000
        · rw [if_pos c1]
          simp only [show (d.Inodes.length : Int) ≥ 1000 by omega, decide_true, cond_true]; rfl
        · rw [if_neg c1]
          by_cases c2 : d.Pending.length ≥ 1000
          · rw [if_pos c2]
            simp only [show ¬ (d.Inodes.length : Int) ≥ 1000 by omega, show (d.Pending.length : Int) ≥ 1000 by omega, decide_true, decide_false, cond_true, cond_false]; rfl
          · rw [if_neg c2]
            obtain ⟨q, rfl⟩ : ∃ q, m = q + 1 := ⟨m - 1, by omega⟩
            simp only [show ¬ (d.Inodes.length : Int) ≥ 1000 by omega, show ¬ (d.Pending.length : Int) ≥ 1000 by omega, decide_true, decide_false, cond_true, cond_false, pend_eq (q + 1) d _ (by omega) (show d.Pending.length ≤ 1000 by omega), Option.bind_some,
              slices_Clip_62, show (0 : Int) ≤ 0 by omega, show (0 : Int) ≤ (d.Inodes.length : Int) by omega, show ((d.Inodes.length : Int) ≤ (d.Inodes.length : Int)) by omega, Bool.and_true, app_ok (n := d.Inodes.length) (b := 24) (by omega) (by omega)]
            rw [perform_eq (q + 1) d _ (by omega) (by rfl) hw]; rfl

theorem fnd_e (d : GDisk) (name : ByteArray) : (fnd d name).2 = 0 ∨ (fnd d name).2 = 1 ∨ (fnd d name).2 = 7 := by
  unfold fnd
  cases valid d with
  | false => simp
  | true => cases lkE name (cur d).1 <;> simp
theorem file_ok {d : GDisk} {name : ByteArray} (hD : d.Durable.length ≤ 1000000000) (h : (fnd d name).2 = 0) : okI (file d name) = true ∧ ino d name < d.Inodes.length ∧ 0 ≤ (fnd d name).1 ∧ (fnd d name).1 < d.Inodes.length ∧ d.Inodes.length ≤ 1000 ∧ d.Pending.length ≤ 1000 := by
  obtain ⟨hv, h1, h2⟩ := fnd_in hD h
  obtain ⟨i1, i2, i3, i4, i5, i6⟩ := valid_il hv
  exact ⟨inode_ok i4 h1 h2, by unfold ino; omega, h1, h2, i1, i2⟩

theorem append_f (n B : Nat) (d : GDisk) (name data : ByteArray) (hb : Bd B d) (hw : Lw d) (hn : B + 1200 ≤ n) (hs : data.size ≤ 1000000000) : disk_Append n d name data = some (appF d name data) := by
  obtain ⟨m, rfl⟩ : ∃ m, n = m + 1 := ⟨n - 1, by omega⟩
  have hB := hb.big; have hdl := hb.dl
  simp only [disk_Append, find_d m B d name hb (by omega), Option.bind_some, appF]
  by_cases he : (fnd d name).2 = 0
  · obtain ⟨o1, o2, o3, o4, o5, o6⟩ := file_ok (by omega) he
    obtain ⟨p1, p2, p3⟩ := okI_spec o1
    have hx : d.Inodes.getD (fnd d name).1.toNat dGInode = file d name := rfl
    simp only [he, show ((0 : Int) != 0) = false by rfl, cond_false, o3, o4, decide_true, Bool.and_true, cond_true, hx, wr (1048576 - ((file d name).Data.size : Int)) (by omega) (by omega), ne_eq, not_true_eq_false, if_false]
    by_cases c : (data.size : Int) > 1048576 - ((file d name).Data.size : Int)
    · rw [if_pos c]; simp only [c, decide_true, cond_true]; rfl
    · rw [if_neg c]
      simp only [c, decide_false, cond_false, show (file d name).Data.size + data.size ≤ 9223372036854775807 by omega, decide_true, cond_true, change_eq m d (fnd d name).1 _ (by omega) o3 o4 o5, Option.bind_some]
      rw [perform_eq m d _ (by omega) (by rfl) hw]; rfl
  · have e : ((fnd d name).2 != 0) = true := by simpa [bne] using he
    rw [if_pos he]
    simp only [e, cond_true]; rfl
theorem sync_f (n B : Nat) (d : GDisk) (name : ByteArray) (hb : Bd B d) (hw : Lw d) (hn : B + 1200 ≤ n) : disk_Sync n d name = some (synF d name) := by
  obtain ⟨m, rfl⟩ : ∃ m, n = m + 1 := ⟨n - 1, by omega⟩
  have hB := hb.big; have hdl := hb.dl
  simp only [disk_Sync, find_d m B d name hb (by omega), Option.bind_some, synF]
  by_cases he : (fnd d name).2 = 0
  · obtain ⟨o1, o2, o3, o4, o5, o6⟩ := file_ok (by omega) he
    have hx : d.Inodes.getD (fnd d name).1.toNat dGInode = file d name := rfl
    simp only [he, show ((0 : Int) != 0) = false by rfl, cond_false, o3, o4, decide_true, Bool.and_true, cond_true, hx, ne_eq, not_true_eq_false, if_false, change_eq m d (fnd d name).1 _ (by omega) o3 o4 o5, Option.bind_some]
    rw [perform_eq m d _ (by omega) (by rfl) hw]; rfl
  · have e : ((fnd d name).2 != 0) = true := by simpa [bne] using he
    rw [if_pos he]
    simp only [e, cond_true]; rfl
theorem truncate_f (n B : Nat) (d : GDisk) (name : ByteArray) (size : Int) (hb : Bd B d) (hw : Lw d) (hn : B + 1200 ≤ n) : disk_Truncate n d name size = some (truF d name size) := by
  obtain ⟨m, rfl⟩ : ∃ m, n = m + 1 := ⟨n - 1, by omega⟩
  have hB := hb.big; have hdl := hb.dl
  simp only [disk_Truncate, find_d m B d name hb (by omega), Option.bind_some, truF]
  by_cases he : (fnd d name).2 = 0
  · obtain ⟨o1, o2, o3, o4, o5, o6⟩ := file_ok (by omega) he
    have hx : d.Inodes.getD (fnd d name).1.toNat dGInode = file d name := rfl
    simp only [he, show ((0 : Int) != 0) = false by rfl, cond_false, o3, o4, decide_true, Bool.and_true, cond_true, hx, ne_eq, not_true_eq_false, if_false]
    by_cases c1 : size < 0
    · rw [if_pos c1]; simp only [c1, decide_true, cond_true]; rfl
    · rw [if_neg c1]
      by_cases c2 : size > ((file d name).Data.size : Int)
      · rw [if_pos c2]; simp only [c1, c2, decide_true, decide_false, cond_true, cond_false]; rfl
      · rw [if_neg c2]
        simp only [c1, c2, show (0 : Int) ≤ 0 by omega, show (0 : Int) ≤ size by omega, show size ≤ ((file d name).Data.size : Int) by omega, decide_true, decide_false, Bool.and_true, cond_true, cond_false, change_eq m d (fnd d name).1 _ (by omega) o3 o4 o5, Option.bind_some, Bool.cond_decide]
        rw [perform_eq m d _ (by omega) (by rfl) hw]; rfl
  · have e : ((fnd d name).2 != 0) = true := by simpa [bne] using he
    rw [if_pos he]
    simp only [e, cond_true]; rfl

/-! ### SyncDir -/
theorem rnk_le (l : Dir) : ∀ i, rnk l i ≤ i
  | 0 => Nat.le_refl _
  | i + 1 => by have := rnk_le l i; simp only [rnk]; cases usedE l (i : Int) <;> simp <;> omega
theorem acI_len (d : GDisk) (l : Dir) : ∀ k i, (acI d l i k).length + rnk l i = rnk l (i + k)
  | 0, i => by simp [acI]
  | k + 1, i => by
    have ih := acI_len d l k (i + 1)
    have e : i + (k + 1) = i + 1 + k := by omega
    rw [e, ← ih]
    simp only [acI, rnk]
    cases usedE l (i : Int) <;> simp <;> omega
theorem syncdir_l0 (n : Nat) (d : GDisk) (l : Dir) (f : List (ByteArray × Int)) (t : List Bool) (hR : Rd d.Inodes.length f t l) (hI : d.Inodes.length ≤ 1000) : ∀ (k i m : Nat) (acc : List GInode) (p : List Int), i + k = d.Inodes.length → acc.length = rnk l i → p.length = d.Inodes.length → (∀ j, j < i → usedE l (j : Int) = true → p.getD j 0 = (rnk l j : Int)) → k < m →
    ∃ p', disk_SyncDir_l0 n d d.Inodes.length f t m acc (d.Inodes.length : Int) (i : Int) p = disk_SyncDir_s2 n d d.Inodes.length f t p' (acc ++ acI d l i k) ∧ p'.length = d.Inodes.length ∧ ∀ j, j < d.Inodes.length → usedE l (j : Int) = true → p'.getD j 0 = (rnk l j : Int)
  | k, i, 0, _, _, _, _, _, _, h => by omega
  | 0, i, m + 1, acc, p, h, h1, h2, h3, _ => by
    have : ¬ ((i : Int) < (d.Inodes.length : Int)) := by omega
    exact ⟨p, by simp only [disk_SyncDir_l0, this, decide_false, cond_false, acI, List.append_nil], h2, fun j hj => h3 j (by omega)⟩
  | k + 1, i, m + 1, acc, p, h, h1, h2, h3, h4 => by
    have hlt : (i : Int) < (d.Inodes.length : Int) := by omega
    have h0 : (0 : Int) ≤ (i : Int) := by omega
    have hbt : i < t.length := by rw [hR.len]; omega
    have hbp : i < p.length := by omega
    have hrk := rnk_le l i
    simp only [disk_SyncDir_l0, disk_SyncDir_s1, hlt, h0, decide_true, Bool.and_true, cond_true, toNat_c, blt_of hbt, blt_of hbp, hR.tkn i (by omega), wr1 i (by omega), acI, app_ok (n := acc.length) (b := 24) (by omega) (by omega)]
    cases hu : usedE l (i : Int) with
    | false =>
      simp only [cond_false]
      exact syncdir_l0 n d l f t hR hI k (i + 1) m acc p (by omega) (by simp only [rnk, hu, cond_false]; exact h1) h2 (fun j hj hju => by
        by_cases e : j = i
        · subst e; rw [hu] at hju; cases hju
        · exact h3 j (by omega) hju) (by omega)
    | true =>
      simp only [cond_true]
      obtain ⟨p', e1, e2, e3⟩ := syncdir_l0 n d l f t hR hI k (i + 1) m (acc ++ [d.Inodes.getD i dGInode]) (p.set i (acc.length : Int)) (by omega) (by simp only [rnk, hu, cond_true, List.length_append, List.length_singleton]; omega) (by simp [h2]) (fun j hj hju => by
        by_cases e : j = i
        · subst e; simp only [List.getD]; rw [List.getElem?_set_self hbp]; simp only [Option.getD_some, h1]
        · simp only [List.getD]; rw [List.getElem?_set_ne (Ne.symm e)]; exact h3 j (by omega) hju) (by omega)
      exact ⟨p', by rw [e1]; simp only [List.append_assoc, List.singleton_append], e2, e3⟩
theorem syncdir_l3 (n : Nat) (d : GDisk) (l : Dir) (f : List (ByteArray × Int)) (t : List Bool) (hR : Rd d.Inodes.length f t l) (hI : d.Inodes.length ≤ 1000) (r6 : Nat) (p : List Int) (hp : p.length = d.Inodes.length) (hpp : ∀ j, j < d.Inodes.length → usedE l (j : Int) = true → p.getD j 0 = (rnk l j : Int)) (a1 : List GInode) :
    ∀ (k i m : Nat) (a2 : Dir), i + k = l.length → a2.length = i → k < m → disk_SyncDir_l3 n d r6 (l.map (·.Name)) f t p m a1 a2 (l.length : Int) (i : Int) = disk_SyncDir_s4 n d f t p a1 (a2 ++ (l.drop i).map (rnkE l))
  | k, i, 0, _, _, _, h => by omega
  | 0, i, m + 1, a2, h, _, _ => by
    have : ¬ ((i : Int) < (l.length : Int)) := by omega
    rw [List.drop_eq_nil_of_le (by omega)]
    simp only [disk_SyncDir_l3, this, decide_false, cond_false, List.map_nil, List.append_nil]
  | k + 1, i, m + 1, a2, h, h1, h2 => by
    have hl := hR.bound
    have hlt : (i : Int) < (l.length : Int) := by omega
    have hlt2 : (i : Int) < ((l.map (·.Name)).length : Int) := by rw [List.length_map]; omega
    have h0 : (0 : Int) ≤ (i : Int) := by omega
    have hi : i < l.length := by omega
    have hmem := getD_mem hi
    have hlk : lk (l.getD i dGDirEntry).Name f = some (l.getD i dGDirEntry).Inode := by rw [hR.lks]; exact (lkE_some hR.srt).2 hmem
    obtain ⟨g1, g2⟩ := hR.rng _ hmem
    have hbp : (l.getD i dGDirEntry).Inode.toNat < p.length := by omega
    have hpv := hpp (l.getD i dGDirEntry).Inode.toNat (by omega) (usedE_iff.2 ⟨_, hmem, by omega⟩)
    have ih := syncdir_l3 n d l f t hR hI r6 p hp hpp a1 k (i + 1) m (a2 ++ [⟨(l.getD i dGDirEntry).Name, p.getD (l.getD i dGDirEntry).Inode.toNat 0⟩]) (by omega) (by simp [h1]) (by omega)
    rw [hpv] at ih
    rw [getD_drop (d := dGDirEntry) hi]
    simp only [disk_SyncDir_l3, hlt, hlt2, h0, decide_true, Bool.and_true, cond_true, toNat_c, getD_map_name hi, hlk, Option.getD_some, g1, g2, blt_of hbp, app_ok (n := a2.length) (b := 24) (by omega) (by omega), wr1 i (by omega), hpv, ih, List.map_cons, List.append_assoc, List.singleton_append]
    rfl
theorem syncdir_f (n B : Nat) (d : GDisk) (hb : Bd B d) (hw : Lw d) (hn : B + 1200 ≤ n) : disk_SyncDir n d = some (sdF d) := by
  obtain ⟨m, rfl⟩ : ∃ m, n = m + 1 := ⟨n - 1, by omega⟩
  have hB := hb.big; have hdl := hb.dl
  obtain ⟨r, h1, h2⟩ := current_eq m d (by omega) (by omega)
  simp only [disk_SyncDir, h1, Option.bind_some, sdF]
  unfold curOut at h2
  cases hv : valid d with
  | false =>
    rw [if_neg (by simp [hv])] at h2
    cases r with
    | c0 a => rfl
    | c1 a b c => rfl
    | c2 a f t => exact absurd rfl (h2 a f t)
  | true =>
    rw [if_pos hv] at h2
    obtain ⟨f, t, rfl, hR⟩ := h2
    obtain ⟨i1, i2, i3, i4, i5, i6⟩ := valid_il hv
    have hl := hR.bound
    simp only [Bool.true_eq_false, if_false, show (0 : Int) ≤ (d.Inodes.length : Int) by omega, show (d.Inodes.length : Int) * 8 ≤ 140737488355328 by omega, show (d.Inodes.length : Int) ≤ 9223372036854775807 by omega, decide_true, Bool.and_true, cond_true]
    obtain ⟨p, e1, e2, e3⟩ := syncdir_l0 m d (cur d).1 f t hR i1 d.Inodes.length 0 m [] (List.replicate d.Inodes.length 0) (by omega) rfl (by simp) (fun j hj => by omega) (by omega)
    refine Eq.trans e1 ?_
    obtain ⟨q, rfl⟩ : ∃ q, m = q + 1 := ⟨m - 1, by omega⟩
    simp only [disk_SyncDir_s2, maps_Keys, Option.bind_some, sorted_rd hR (q + 1) (by omega) (by omega), List.length_map, List.nil_append]
    have := syncdir_l3 (q + 1) d (cur d).1 f t hR i1 d.Inodes.length p e2 e3 (acI d (cur d).1 0 d.Inodes.length) (cur d).1.length 0 (q + 1) [] (by omega) rfl (by omega)
    refine Eq.trans this ?_
    simp only [disk_SyncDir_s4, List.drop_zero, List.nil_append]
    rw [perform_eq (q + 1) d _ (by omega) (by rfl) hw]; rfl

end Go.Proofs.YtkignmhjbjgkoaaGreat

/- Plain laws, 9: what the operations leave of sizes and power; DiskPower. -/
set_option linter.unusedVariables false
set_option linter.unusedSimpArgs false
namespace Go.Proofs.YtkignmhjbjgkoaaGreat
open Go Go.AM

/-- Sizes that an operation lets grow by one. -/
structure Bg (c : Nat) (d : GDisk) : Prop where
  dn : ∀ e ∈ d.Durable, e.Name.size ≤ 200
  pn : ∀ x ∈ d.Pending, x.Name.size + x.To.size ≤ 200
  dl : d.Durable.length + d.Pending.length ≤ c
  il : d.Inodes.length ≤ c
theorem Bg.bd {c : Nat} {d : GDisk} (h : Bg c d) (hc : c ≤ 200) : Bd 200 d := ⟨h.dn, h.pn, by have := h.dl; omega, by have := h.dl; omega, by have := h.il; omega, by omega⟩
theorem Bg.mono {c c' : Nat} {d : GDisk} (h : Bg c d) (hc : c ≤ c') : Bg c' d := ⟨h.dn, h.pn, by have := h.dl; omega, by have := h.il; omega⟩

theorem aft_len (N : Int) : ∀ (ops : List GDirOp) (l : Dir), (aft N ops l).1.length ≤ l.length + ops.length
  | [], l => by simp [aft]
  | x :: ops, l => by
    have h1 := ap_len N l x
    have ih := aft_len N ops (ap N l x).1
    simp only [aft, List.length_cons]
    cases (ap N l x).2 <;> simp only [cond_true, cond_false] <;> omega
theorem isNm_size {s : ByteArray} (h : isNm s = true) : s.size ≤ 60 := by
  simp only [isNm, Bool.and_eq_true, decide_eq_true_eq] at h; exact h.1.2

/-- What an operation may leave. -/
structure Out (c : Nat) (d : GDisk) (r : GDisk × Int) : Prop where
  ok : r.2 = 0 → d.Left ≠ 0 ∧ r.1.Left = (if d.Left > 0 then d.Left - 1 else d.Left) ∧ Bg (c + 1) r.1
  lost : r.2 = 19 → d.Left = 0 ∧ r.1 = d
  err : r.2 ≠ 0 → r.2 ≠ 19 → r.1 = ⟨[], [], [], 0⟩
theorem out_prf {c : Nat} {d next : GDisk} (h : Bg (c + 1) next) : Out c d (prf d next) := by
  unfold prf
  by_cases h0 : d.Left = 0
  · rw [if_pos h0]; exact ⟨fun e => (by cases e), fun _ => ⟨h0, rfl⟩, fun _ h => absurd rfl h⟩
  · rw [if_neg h0]; exact ⟨fun _ => ⟨h0, rfl, ⟨h.dn, h.pn, h.dl, h.il⟩⟩, fun e => (by cases e), fun h => absurd rfl h⟩
theorem out_no {c : Nat} {d : GDisk} {e : Int} (h0 : e ≠ 0) (h1 : e ≠ 19) : Out c d (no e) := ⟨fun h => absurd h h0, fun h => absurd h h1, fun _ _ => rfl⟩
theorem out_fnd {c : Nat} {d : GDisk} {name : ByteArray} (h : (fnd d name).2 ≠ 0) : Out c d (no (fnd d name).2) := by
  refine out_no h ?_
  rcases fnd_e d name with e | e | e <;> rw [e] <;> omega
theorem bg_chg {c : Nat} {d : GDisk} {i : Nat} {x : GInode} (h : Bg c d) : Bg (c + 1) (chg d i x) := ⟨h.dn, h.pn, by have := h.dl; simp only [chg]; omega, by have := h.il; simp only [chg, List.length_set]; omega⟩
theorem bg_pend {c : Nat} {d : GDisk} {x : GDirOp} {I : List GInode} (h : Bg c d) (hx : x.Name.size + x.To.size ≤ 200) (hI : I.length ≤ c + 1) : Bg (c + 1) ⟨I, d.Durable, d.Pending ++ [x], d.Left⟩ := by
  refine ⟨h.dn, fun y hy => ?_, ?_, hI⟩
  · rcases List.mem_append.1 hy with hy | hy
    · exact h.pn y hy
    · have := List.mem_singleton.1 hy; rw [this]; exact hx
  · have := h.dl; simp only [List.length_append, List.length_singleton]; omega

theorem out_len {c : Nat} {d : GDisk} {r : GDisk × Int} (h : Out c d r) (hd : Bg c d) : r.1.Pending.length ≤ c + 1 ∧ r.1.Durable.length ≤ c + 1 ∧ r.1.Inodes.length ≤ c + 1 := by
  by_cases h0 : r.2 = 0
  · have := (h.ok h0).2.2; have h1 := this.dl; have h2 := this.il; omega
  · by_cases h1 : r.2 = 19
    · rw [(h.lost h1).2]; have h1 := hd.dl; have h2 := hd.il; omega
    · rw [h.err h0 h1]; simp

end Go.Proofs.YtkignmhjbjgkoaaGreat
