/- Plain laws, 4: which disks are valid, and their directories. -/
import Derived.Test.YtkignmhjbjgkoaaGreatSp3
set_option linter.unusedVariables false
set_option linter.unusedSimpArgs false
namespace Go.Proofs.YtkignmhjbjgkoaaGreat
open Go Go.AM

def okI (x : GInode) : Bool := decide (x.Data.size ≤ 1048576) && (decide (0 ≤ x.Synced) && decide (x.Synced ≤ (x.Data.size : Int)))
def okD (N : Nat) (D : Dir) (i : Nat) : Bool :=
  isNm (D.getD i dGDirEntry).Name && ((decide (i = 0) || decide (ky (D.getD (i - 1) dGDirEntry).Name < ky (D.getD i dGDirEntry).Name)) && (decide (0 ≤ (D.getD i dGDirEntry).Inode) && (decide ((D.getD i dGDirEntry).Inode < (N : Int)) && !usedE (D.take i) (D.getD i dGDirEntry).Inode)))
def durB (N : Nat) (D : Dir) (i : Nat) : Nat → Bool
  | 0 => true
  | k + 1 => okD N D i && durB N D (i + 1) k
def durA (d : GDisk) : Bool := durB d.Inodes.length d.Durable 0 d.Durable.length
def cur (d : GDisk) : Dir × Bool := aft (d.Inodes.length : Int) d.Pending d.Durable
def valid (d : GDisk) : Bool := decide (d.Inodes.length ≤ 1000) && (decide (d.Pending.length ≤ 1000) && (decide (-1 ≤ d.Left) && (d.Inodes.all okI && (durA d && (cur d).2))))

theorem take_succ {α : Type} {l : List α} {i : Nat} {d : α} (h : i < l.length) : l.take (i + 1) = l.take i ++ [l.getD i d] := by
  rw [List.take_add_one]; simp [List.getD, List.getElem?_eq_getElem h]
theorem wi_last {x : GDirEntry} : ∀ {l : Dir}, (∀ a ∈ l, ky a.Name < ky x.Name) → wi x l = l ++ [x]
  | [], _ => rfl
  | e :: l, h => by
    have h1 := h e (by simp)
    have : sGt e.Name x.Name = false := by
      cases hg : sGt e.Name x.Name with
      | false => rfl
      | true => exact absurd (gt_iff.1 hg) (ky_lt_asymm h1)
    simp only [wi, this, cond_false, List.cons_append]
    rw [wi_last fun a ha => h a (by simp [ha])]

theorem below_all {N : Nat} {files : List (ByteArray × Int)} {taken : List Bool} {D : Dir} {i : Nat} {x : GDirEntry} (h : Srt (D.take i)) (hi : i ≤ D.length) (hx : i = 0 ∨ ky (D.getD (i - 1) dGDirEntry).Name < ky x.Name) : ∀ a ∈ D.take i, ky a.Name < ky x.Name := by
  intro a ha
  rcases hx with h0 | hx
  · subst h0; simp at ha
  · by_cases h0 : i = 0
    · subst h0; simp at ha
    · obtain ⟨j, rfl⟩ : ∃ j, i = j + 1 := ⟨i - 1, by omega⟩
      rw [take_succ (d := dGDirEntry) (show j < D.length by omega)] at ha h
      simp only [Nat.add_sub_cancel] at hx
      rcases List.mem_append.1 ha with ha | ha
      · have := (List.pairwise_append.1 h).2.2 a ha _ (List.mem_singleton.2 rfl)
        exact ky_lt_trans this hx
      · simp at ha; subst ha; exact hx

theorem durable_l0 (n : Nat) (d : GDisk) (hn : 70 ≤ n) (hD : d.Durable.length ≤ 1000000000) : ∀ (k i m : Nat) (files : List (ByteArray × Int)) (taken : List Bool), i + k = d.Durable.length → Rd d.Inodes.length files taken (d.Durable.take i) → k < m →
    ∃ f t, disk_durable_l0 n d m (d.Durable.length : Int) (i : Int) files taken = some (d.Inodes.length, durB d.Inodes.length d.Durable i k, f, t) ∧ (durB d.Inodes.length d.Durable i k = true → Rd d.Inodes.length f t d.Durable)
  | k, i, 0, _, _, _, _, h => by omega
  | 0, i, m + 1, files, taken, h, hR, _ => by
    have : ¬ ((i : Int) < (d.Durable.length : Int)) := by omega
    refine ⟨files, taken, by simp only [disk_durable_l0, disk_durable_s1, this, decide_false, cond_false, durB], fun _ => ?_⟩
    rwa [List.take_of_length_le (by omega)] at hR
  | k + 1, i, m + 1, files, taken, h, hR, h2 => by
    have hw := wr1 i (by omega)
    have hlt : (i : Int) < (d.Durable.length : Int) := by omega
    have h0 : (0 : Int) ≤ (i : Int) := by omega
    obtain ⟨e, he⟩ : ∃ e, d.Durable.getD i dGDirEntry = e := ⟨_, rfl⟩
    -- what comes behind the comparison with the name ahead
    have hrest : ∀ (b : Bool), (b = true → i = 0 ∨ ky (d.Durable.getD (i - 1) dGDirEntry).Name < ky e.Name) → b = (decide (i = 0) || decide (ky (d.Durable.getD (i - 1) dGDirEntry).Name < ky e.Name)) → isNm e.Name = true → b = true →
        ∃ f t, (bif decide (e.Inode < 0) then some (d.Inodes.length, false, files, taken) else bif decide (e.Inode ≥ (d.Inodes.length : Int)) then some (d.Inodes.length, false, files, taken) else bif decide ((0 : Int) ≤ e.Inode) && decide (e.Inode < (d.Inodes.length : Int)) then
          bif Nat.blt e.Inode.toNat taken.length then bif taken.getD e.Inode.toNat false then some (d.Inodes.length, false, files, taken) else bif decide ((0 : Int) ≤ e.Inode) && decide (e.Inode < (d.Inodes.length : Int)) then bif Nat.blt e.Inode.toNat taken.length then
            disk_durable_l0 n d m (d.Durable.length : Int) ((i + 1 : Nat) : Int) (putL e.Name e.Inode files) (taken.set e.Inode.toNat true) else none else none else none else none) = some (d.Inodes.length, durB d.Inodes.length d.Durable i (k + 1), f, t) ∧ (durB d.Inodes.length d.Durable i (k + 1) = true → Rd d.Inodes.length f t d.Durable) := by
      intro b hb1 hb2 hnm hbt
      have hlast := hb1 hbt
      simp only [durB, okD, he, hnm, ← hb2, hbt, Bool.true_and]
      by_cases c1 : e.Inode < 0
      · have : ¬ (0 : Int) ≤ e.Inode := by omega
        exact ⟨files, taken, by simp only [c1, this, decide_true, decide_false, cond_true, Bool.false_and], by simp [this]⟩
      · have c1' : (0 : Int) ≤ e.Inode := by omega
        by_cases c2 : e.Inode ≥ (d.Inodes.length : Int)
        · have : ¬ e.Inode < (d.Inodes.length : Int) := by omega
          exact ⟨files, taken, by simp only [c1, c2, this, decide_true, decide_false, cond_true, cond_false, Bool.false_and, Bool.and_false], by simp [this]⟩
        · have c2' : e.Inode < (d.Inodes.length : Int) := by omega
          have hbl : e.Inode.toNat < taken.length := by rw [hR.len]; omega
          have ht := hR.tkn e.Inode.toNat (by omega)
          have hee : ((e.Inode.toNat : Nat) : Int) = e.Inode := by omega
          rw [hee] at ht
          simp only [c1, c1', c2, c2', decide_true, decide_false, cond_true, cond_false, Bool.and_true, Bool.true_and, blt_of hbl, ht]
          cases hu : usedE (d.Durable.take i) e.Inode with
          | true => exact ⟨files, taken, rfl, fun h => by cases h⟩
          | false =>
            simp only [cond_false, Bool.not_false, Bool.true_and]
            have hall := below_all (N := d.Inodes.length) (files := files) (taken := taken) hR.srt (by omega) hlast
            have hno : lkE e.Name (d.Durable.take i) = none := lkE_none.2 fun a ha hh => by have := hall a ha; rw [hh] at this; exact ky_lt_irrefl _ this
            have hR' := hR.create c1' c2' hno hu hnm
            rw [wi_last hall] at hR'
            have htk := take_succ (d := dGDirEntry) (show i < d.Durable.length by omega)
            rw [he] at htk
            have hR2 : Rd d.Inodes.length (putL e.Name e.Inode files) (taken.set e.Inode.toNat true) (d.Durable.take (i + 1)) := by rw [htk]; exact hR'
            exact durable_l0 n d hn hD k (i + 1) m _ _ (by omega) hR2 (by omega)
    simp only [disk_durable_l0, hlt, h0, decide_true, Bool.and_true, cond_true, toNat_c, hw, he, isName_eq n e.Name (by omega), Option.bind_some]
    cases hnm : isNm e.Name with
    | false =>
      refine ⟨files, taken, by simp only [durB, okD, he, hnm, Bool.false_and, Bool.not_false, cond_true], ?_⟩
      intro hh; simp only [durB, okD, he, hnm, Bool.false_and] at hh; cases hh
    | true =>
      simp only [Bool.not_true, cond_false]
      by_cases hi : i = 0
      · have : ¬ (i : Int) > 0 := by omega
        simp only [this, decide_false, cond_false]
        exact hrest true (fun _ => .inl hi) (by simp [hi]) hnm rfl
      · have hgt : (i : Int) > 0 := by omega
        obtain ⟨j, rfl⟩ : ∃ j, i = j + 1 := ⟨i - 1, by omega⟩
        have hp := wrp j (by omega)
        have q1 : (0 : Int) ≤ (j : Int) := by omega
        have q2 : (j : Int) < (d.Durable.length : Int) := by omega
        simp only [hgt, hp, q1, q2, decide_true, Bool.and_true, cond_true, toNat_c]
        cases hs : sLe e.Name (d.Durable.getD j dGDirEntry).Name with
        | true =>
          have hnl : ¬ ky (d.Durable.getD j dGDirEntry).Name < ky e.Name := by
            rw [sLe_eq] at hs
            simp only [Bool.or_eq_true, decide_eq_true_eq] at hs
            rcases hs with h | h
            · exact ky_lt_asymm h
            · rw [h]; exact ky_lt_irrefl _
          have hok : okD d.Inodes.length d.Durable (j + 1) = false := by
            simp only [okD, he, Nat.add_sub_cancel, hnl, decide_false, show ¬ (j + 1 = 0) by omega, Bool.or_false, Bool.false_and, Bool.and_false]
          refine ⟨files, taken, by simp only [durB, hok, Bool.false_and, cond_true], ?_⟩
          intro hh
          simp only [durB, hok, Bool.false_and] at hh; cases hh
        | false =>
          have hl : ky (d.Durable.getD j dGDirEntry).Name < ky e.Name := by
            rw [sLe_eq] at hs
            simp only [Bool.or_eq_false_iff, decide_eq_false_iff_not] at hs
            rcases ky_tri e.Name (d.Durable.getD j dGDirEntry).Name with h | h | h
            · exact absurd h hs.1
            · exact absurd h hs.2
            · exact h
          simp only [cond_false]
          exact hrest true (fun _ => .inr (by rw [Nat.add_sub_cancel]; exact hl)) (by rw [Nat.add_sub_cancel]; simp only [hl, decide_true, Bool.or_true]) hnm rfl

theorem rd0 (N : Nat) : Rd N [] (List.replicate N false) [] := by
  refine ⟨List.Pairwise.nil, fun _ => rfl, by simp, fun e he => by simp at he, fun a ha => by simp at ha, by simp, fun i hi => ?_, ?_⟩
  · simp [List.getD, usedE, hi]
  · intro e he; simp at he
theorem durable_eq (n : Nat) (d : GDisk) (hn : d.Durable.length + 80 ≤ n) (hD : d.Durable.length ≤ 1000000000) (hI : d.Inodes.length ≤ 1000000) :
    ∃ f t, disk_durable n d = some (d.Inodes.length, durA d, f, t) ∧ (durA d = true → Rd d.Inodes.length f t d.Durable) := by
  obtain ⟨m, rfl⟩ : ∃ m, n = m + 1 := ⟨n - 1, by omega⟩
  have h1 : (0 : Int) ≤ (d.Inodes.length : Int) := by omega
  have h2 : (d.Inodes.length : Int) * 1 ≤ 140737488355328 := by omega
  have h3 : (d.Inodes.length : Int) ≤ 9223372036854775807 := by omega
  simp only [disk_durable, h1, h2, h3, decide_true, Bool.and_true, cond_true]
  exact durable_l0 m d (by omega) hD d.Durable.length 0 m [] _ (by omega) (by simpa using rd0 _) (by omega)

/-- What the program says of its directory. -/
def curOut (d : GDisk) (r : disk_current_R) : Prop :=
  if valid d = true then ∃ f t, r = .c2 d.Inodes.length f t ∧ Rd d.Inodes.length f t (cur d).1 else ∀ a f t, r ≠ .c2 a f t

theorem current_l2 (n : Nat) (N : Nat) (r1 : Nat × Bool × (List (ByteArray × Int)) × (List Bool)) (h1 : r1.1 = N) (d : GDisk) (hn : 80 ≤ n) (hP : d.Pending.length ≤ 1000000000) : ∀ (k i m : Nat) (f : List (ByteArray × Int)) (t : List Bool) (l : Dir), i + k = d.Pending.length → Rd N f t l → k < m →
    ∃ r, disk_current_l2 n r1 d m (d.Pending.length : Int) (i : Int) f t = some r ∧ (if (aft N (d.Pending.drop i) l).2 = true then ∃ f' t', r = .c2 N f' t' ∧ Rd N f' t' (aft N (d.Pending.drop i) l).1 else ∀ a f t, r ≠ .c2 a f t)
  | k, i, 0, _, _, _, _, _, h => by omega
  | 0, i, m + 1, f, t, l, h, hR, _ => by
    have : ¬ ((i : Int) < (d.Pending.length : Int)) := by omega
    have h2 : d.Pending.drop i = [] := List.drop_eq_nil_of_le (by omega)
    refine ⟨_, by simp only [disk_current_l2, disk_current_s3, this, decide_false, cond_false]; rfl, ?_⟩
    rw [h2, h1]
    simp only [aft, if_true]
    exact ⟨f, t, rfl, hR⟩
  | k + 1, i, m + 1, f, t, l, h, hR, h2 => by
    have hw := wr1 i (by omega)
    have hlt : (i : Int) < (d.Pending.length : Int) := by omega
    have h0 : (0 : Int) ≤ (i : Int) := by omega
    rw [getD_drop (d := dGDirOp) (show i < d.Pending.length by omega)]
    obtain ⟨x, hx⟩ : ∃ x, d.Pending.getD i dGDirOp = x := ⟨_, rfl⟩
    obtain ⟨q, rfl⟩ : ∃ q, n = q + 1 := ⟨n - 1, by omega⟩
    simp only [disk_current_l2, hlt, h0, decide_true, Bool.and_true, cond_true, toNat_c, hw, hx, disk_operationOf, aft, h1]
    have bad : (ap N l x).2 = false → ∀ r : disk_current_R, (∀ a f t, r ≠ .c2 a f t) → (if (bif (ap N l x).2 then aft N (d.Pending.drop (i + 1)) (ap N l x).1 else ((ap N l x).1, false)).2 = true then ∃ f' t', r = .c2 N f' t' ∧ Rd N f' t' (bif (ap N l x).2 then aft N (d.Pending.drop (i + 1)) (ap N l x).1 else ((ap N l x).1, false)).1 else ∀ a f t, r ≠ .c2 a f t) := fun hb r hr => by
      rw [hb]; simpa using hr
    by_cases k1 : x.Kind = 1
    · simp only [k1, show ((1 : Int) == 1) = true by rfl, cond_true, Option.bind_some, mayCreate_eq hR x k1 (show 70 ≤ q + 1 by omega)]
      cases ha : (ap N l x).2 with
      | false => exact ⟨.c1 [] f t, rfl, by simp⟩
      | true =>
        obtain ⟨f', t', e1, e2⟩ := create_eq (n := q + 1) hR x k1 ha (by omega)
        simp only [Bool.not_true, cond_false, cond_true, e1, Option.bind_some]
        exact current_l2 (q + 1) N r1 h1 d hn hP k (i + 1) m f' t' _ (by omega) e2 (by omega)
    · have e1 : (x.Kind == 1) = false := by simpa using k1
      by_cases k2 : x.Kind = 2
      · simp only [k2, show ((2 : Int) == 1) = false by rfl, show ((2 : Int) == 2) = true by rfl, cond_true, cond_false, Option.bind_some, mayRename_eq hR x k2 (show 70 ≤ q + 1 by omega)]
        cases ha : (ap N l x).2 with
        | false => exact ⟨.c1 [] f t, rfl, by simp⟩
        | true =>
          obtain ⟨f', t', e1, e2⟩ := rename_eq (n := q + 1) hR x k2 ha (by omega)
          simp only [Bool.not_true, cond_false, cond_true, e1, Option.bind_some]
          exact current_l2 (q + 1) N r1 h1 d hn hP k (i + 1) m f' t' _ (by omega) e2 (by omega)
      · have e2 : (x.Kind == 2) = false := by simpa using k2
        by_cases k3 : x.Kind = 3
        · simp only [k3, show ((3 : Int) == 1) = false by rfl, show ((3 : Int) == 2) = false by rfl, show ((3 : Int) == 3) = true by rfl, cond_true, cond_false, Option.bind_some, mayRemove_eq hR x k3 (show 1 ≤ q + 1 by omega)]
          cases ha : (ap N l x).2 with
          | false => exact ⟨.c1 [] f t, rfl, by simp⟩
          | true =>
            obtain ⟨f', t', e1, e2⟩ := remove_eq (n := q + 1) hR x k3 ha (by omega)
            simp only [Bool.not_true, cond_false, cond_true, e1, Option.bind_some]
            exact current_l2 (q + 1) N r1 h1 d hn hP k (i + 1) m f' t' _ (by omega) e2 (by omega)
        · have e3 : (x.Kind == 3) = false := by simpa using k3
          simp only [e1, e2, e3, cond_false, Option.bind_some]
          exact ⟨.c1 [] f t, rfl, bad (ap_none k1 k2 k3) _ (by simp)⟩

theorem current_s1 (n : Nat) (d : GDisk) (hn : d.Durable.length + 1100 ≤ n) (hD : d.Durable.length ≤ 1000000000) (hI : d.Inodes.length ≤ 1000) (hP : d.Pending.length ≤ 1000) (hL : -1 ≤ d.Left) (hO : d.Inodes.all okI = true) : ∃ r, disk_current_s1 n d = some r ∧ curOut d r := by
  obtain ⟨f, t, h1, h2⟩ := durable_eq n d (by omega) hD (by omega)
  simp only [disk_current_s1, h1, Option.bind_some, curOut, valid, hI, hP, hL, hO, decide_true, Bool.true_and]
  cases hd : durA d with
  | false => exact ⟨_, rfl, by simp⟩
  | true =>
    simp only [Bool.not_true, cond_false, Bool.true_and]
    exact current_l2 n d.Inodes.length (d.Inodes.length, true, f, t) rfl d (by omega) (by omega) d.Pending.length 0 n f t d.Durable (by omega) (h2 hd) (by omega)

theorem current_l0 (n : Nat) (d : GDisk) (hn : d.Durable.length + 1100 ≤ n) (hD : d.Durable.length ≤ 1000000000) (hI : d.Inodes.length ≤ 1000) (hP : d.Pending.length ≤ 1000) (hL : -1 ≤ d.Left) : ∀ (k i m : Nat), i + k = d.Inodes.length → (d.Inodes.take i).all okI = true → k < m →
    ∃ r, disk_current_l0 n d m (d.Inodes.length : Int) (i : Int) = some r ∧ curOut d r
  | k, i, 0, _, _, h => by omega
  | 0, i, m + 1, h, hO, _ => by
    have : ¬ ((i : Int) < (d.Inodes.length : Int)) := by omega
    rw [List.take_of_length_le (by omega)] at hO
    simp only [disk_current_l0, this, decide_false, cond_false]
    exact current_s1 n d hn hD hI hP hL hO
  | k + 1, i, m + 1, h, hO, h2 => by
    have hw := wr1 i (by omega)
    have hlt : (i : Int) < (d.Inodes.length : Int) := by omega
    have h0 : (0 : Int) ≤ (i : Int) := by omega
    have hm : d.Inodes.getD i dGInode ∈ d.Inodes := by
      have := List.drop_subset i d.Inodes; rw [getD_drop (d := dGInode) (show i < d.Inodes.length by omega)] at this; exact this (by simp)
    have htk := take_succ (d := dGInode) (show i < d.Inodes.length by omega)
    obtain ⟨x, hx⟩ : ∃ x, d.Inodes.getD i dGInode = x := ⟨_, rfl⟩
    rw [hx] at hm htk
    have bad : okI x = false → ∀ r : disk_current_R, (∀ a f t, r ≠ .c2 a f t) → curOut d r := fun hb r hr => by
      have : d.Inodes.all okI = false := by
        cases ha : d.Inodes.all okI with
        | false => rfl
        | true => rw [List.all_eq_true.1 ha x hm] at hb; cases hb
      unfold curOut
      rw [if_neg (by simp [valid, this])]
      exact hr
    simp only [disk_current_l0, hlt, h0, decide_true, Bool.and_true, cond_true, toNat_c, hw, hx]
    by_cases c1 : (x.Data.size : Int) > 1048576
    · simp only [c1, decide_true, cond_true]
      exact ⟨_, rfl, bad (by simp only [okI, show ¬ x.Data.size ≤ 1048576 by omega, decide_false, Bool.false_and]) _ (by simp)⟩
    · by_cases c2 : x.Synced < 0
      · simp only [c1, c2, decide_true, decide_false, cond_true, cond_false]
        exact ⟨_, rfl, bad (by simp only [okI, show ¬ 0 ≤ x.Synced by omega, decide_false, Bool.false_and, Bool.and_false]) _ (by simp)⟩
      · by_cases c3 : x.Synced > (x.Data.size : Int)
        · simp only [c1, c2, c3, decide_true, decide_false, cond_true, cond_false]
          exact ⟨_, rfl, bad (by simp only [okI, show ¬ x.Synced ≤ (x.Data.size : Int) by omega, decide_false, Bool.and_false]) _ (by simp)⟩
        · simp only [c1, c2, c3, decide_false, cond_false]
          refine current_l0 n d hn hD hI hP hL k (i + 1) m (by omega) ?_ (by omega)
          rw [htk, List.all_append, hO]
          simp only [List.all_cons, List.all_nil, Bool.and_true, Bool.true_and, okI, show x.Data.size ≤ 1048576 by omega, show 0 ≤ x.Synced by omega, show x.Synced ≤ (x.Data.size : Int) by omega, decide_true]

theorem current_eq (n : Nat) (d : GDisk) (hn : d.Durable.length + 1101 ≤ n) (hD : d.Durable.length ≤ 1000000000) : ∃ r, disk_current n d = some r ∧ curOut d r := by
  obtain ⟨m, rfl⟩ : ∃ m, n = m + 1 := ⟨n - 1, by omega⟩
  simp only [disk_current]
  by_cases c1 : (d.Inodes.length : Int) > 1000
  · simp only [c1, decide_true, cond_true]
    refine ⟨_, rfl, ?_⟩
    unfold curOut; rw [if_neg (by simp only [valid, show ¬ d.Inodes.length ≤ 1000 by omega, decide_false, Bool.false_and]; simp)]; simp
  · by_cases c2 : (d.Pending.length : Int) > 1000
    · simp only [c1, c2, decide_true, decide_false, cond_true, cond_false]
      refine ⟨_, rfl, ?_⟩
      unfold curOut; rw [if_neg (by simp only [valid, show ¬ d.Pending.length ≤ 1000 by omega, decide_false, Bool.false_and, Bool.and_false]; simp)]; simp
    · by_cases c3 : d.Left < -1
      · simp only [c1, c2, c3, decide_true, decide_false, cond_true, cond_false]
        refine ⟨_, rfl, ?_⟩
        unfold curOut; rw [if_neg (by simp only [valid, show ¬ -1 ≤ d.Left by omega, decide_false, Bool.false_and, Bool.and_false]; simp)]; simp
      · simp only [c1, c2, c3, decide_false, cond_false]
        exact current_l0 m d (by omega) hD (by omega) (by omega) (by omega) d.Inodes.length 0 m (by omega) (by simp) (by omega)
end Go.Proofs.YtkignmhjbjgkoaaGreat

/- Plain laws, 5: the reference's check; files are found and read alike. -/
set_option linter.unusedVariables false
set_option linter.unusedSimpArgs false
namespace Go.Proofs.YtkignmhjbjgkoaaGreat
open Go Go.AM

/-- Sizes. -/
structure Bd (B : Nat) (d : GDisk) : Prop where
  dn : ∀ e ∈ d.Durable, e.Name.size ≤ B
  pn : ∀ x ∈ d.Pending, x.Name.size + x.To.size ≤ B
  dl : d.Durable.length ≤ B
  pl : d.Pending.length ≤ B
  il : d.Inodes.length ≤ B
  big : B ≤ 100000

theorem durA_bound {d : GDisk} (hD : d.Durable.length ≤ 1000000000) (hI : d.Inodes.length ≤ 1000000) (h : durA d = true) : d.Durable.length ≤ d.Inodes.length := by
  obtain ⟨f, t, _, h2⟩ := durable_eq (d.Durable.length + 80) d (by omega) hD hI
  exact (h2 h).bound

theorem check_eq (n B : Nat) (d : GDisk) (hb : Bd B d) (hn : B + 1110 ≤ n) : disk_Check n d = some (bif valid d then 0 else 1) := by
  obtain ⟨m, rfl⟩ : ∃ m, n = m + 1 := ⟨n - 1, by omega⟩
  have hB := hb.big; have hdl := hb.dl
  obtain ⟨r, h1, h2⟩ := current_eq m d (by omega) (by omega)
  simp only [disk_Check, h1, Option.bind_some]
  unfold curOut at h2
  cases hv : valid d with
  | true =>
    rw [if_pos hv] at h2
    obtain ⟨f, t, rfl, _⟩ := h2; rfl
  | false =>
    rw [if_neg (by simp [hv])] at h2
    cases r with
    | c0 a => rfl
    | c1 a b c => rfl
    | c2 a f t => exact absurd rfl (h2 a f t)

/-- The current directory of a valid disk. -/
theorem cur_rd {d : GDisk} (hv : valid d = true) (hD : d.Durable.length ≤ 1000000000) : ∃ f t, Rd d.Inodes.length f t (cur d).1 := by
  obtain ⟨r, h1, h2⟩ := current_eq (d.Durable.length + 1101) d (by omega) hD
  unfold curOut at h2
  rw [if_pos hv] at h2
  obtain ⟨f, t, _, h⟩ := h2
  exact ⟨f, t, h⟩
theorem valid_il {d : GDisk} (hv : valid d = true) : d.Inodes.length ≤ 1000 ∧ d.Pending.length ≤ 1000 ∧ -1 ≤ d.Left ∧ d.Inodes.all okI = true ∧ durA d = true ∧ (cur d).2 = true := by
  simpa [valid, and_assoc] using hv
theorem cur_len {d : GDisk} (hv : valid d = true) (hD : d.Durable.length ≤ 1000000000) : (cur d).1.length ≤ 1000 := by
  obtain ⟨f, t, h⟩ := cur_rd hv hD
  have := h.bound; have := (valid_il hv).1; omega

/-- What finding a file gives. -/
def fnd (d : GDisk) (name : ByteArray) : Int × Int := bif valid d then (match lkE name (cur d).1 with | none => (0, 7) | some i => (i, 0)) else (0, 1)
theorem find_d (n B : Nat) (d : GDisk) (name : ByteArray) (hb : Bd B d) (hn : B + 1110 ≤ n) : disk_find n d name = some (fnd d name) := by
  obtain ⟨m, rfl⟩ : ∃ m, n = m + 1 := ⟨n - 1, by omega⟩
  have hB := hb.big; have hdl := hb.dl
  obtain ⟨r, h1, h2⟩ := current_eq m d (by omega) (by omega)
  simp only [disk_find, h1, Option.bind_some, fnd]
  unfold curOut at h2
  cases hv : valid d with
  | true =>
    rw [if_pos hv] at h2
    obtain ⟨f, t, rfl, hR⟩ := h2
    simp only [cond_true, lk_is hR, hR.lks, Bool.not_not]
    cases lkE name (cur d).1 <;> rfl
  | false =>
    rw [if_neg (by simp [hv])] at h2
    cases r with
    | c0 a => rfl
    | c1 a b c => rfl
    | c2 a f t => exact absurd rfl (h2 a f t)
theorem fnd_in {d : GDisk} {name : ByteArray} (hD : d.Durable.length ≤ 1000000000) (h : (fnd d name).2 = 0) : valid d = true ∧ 0 ≤ (fnd d name).1 ∧ (fnd d name).1 < d.Inodes.length := by
  unfold fnd at *
  cases hv : valid d with
  | false => rw [hv] at h; simp at h
  | true =>
    obtain ⟨f, t, hR⟩ := cur_rd hv hD
    rw [hv] at h
    simp only [cond_true] at *
    cases hl : lkE name (cur d).1 with
    | none => rw [hl] at h; simp at h
    | some i => exact ⟨trivial, rng_of hR hl⟩

/-- Reading. -/
def rdF (d : GDisk) (name : ByteArray) : ByteArray × Int := bif (fnd d name).2 == 0 then ((d.Inodes.getD (fnd d name).1.toNat dGInode).Data, 0) else (bE, (fnd d name).2)
theorem read_d (n B : Nat) (d : GDisk) (name : ByteArray) (hb : Bd B d) (hn : B + 1120 ≤ n) : disk_Read n d name = some (rdF d name) := by
  obtain ⟨m, rfl⟩ : ∃ m, n = m + 1 := ⟨n - 1, by omega⟩
  have hB := hb.big; have hdl := hb.dl
  simp only [disk_Read, find_d m B d name hb (by omega), Option.bind_some, rdF, bne]
  cases h : (fnd d name).2 == 0 with
  | false => rfl
  | true =>
    obtain ⟨_, h1, h2⟩ := fnd_in (name := name) (d := d) (by omega) (by simpa using h)
    simp only [Bool.not_true, cond_false, cond_true, h1, h2, decide_true, Bool.and_true]
/-- The names. -/
def lsF (d : GDisk) : List ByteArray := bif valid d then (cur d).1.map (·.Name) else []
theorem sorted_rd {N : Nat} {f : List (ByteArray × Int)} {t : List Bool} {l : Dir} (h : Rd N f t l) (n : Nat) (hn : 1 ≤ n) (hl : l.length ≤ 1000000000) : sortedKeys n f = some (l.map (·.Name)) := by
  obtain ⟨m, rfl⟩ : ∃ m, n = m + 1 := ⟨n - 1, by omega⟩
  have hnm := h.names
  have hlen : f.length = l.length := by
    have := (perm_isort (f.map (·.1))).length_eq
    rw [hnm] at this; simpa using this.symm
  have hsz : f.all (fun p => decide (p.1.size ≤ 9223372036854775807)) = true := List.all_eq_true.2 fun p hp => by
    have h1 : p.1 ∈ isort (f.map (·.1)) := (perm_isort _).mem_iff.2 (List.mem_map.2 ⟨p, hp, rfl⟩)
    rw [hnm] at h1
    obtain ⟨e, he, e1⟩ := List.mem_map.1 h1
    have h2 := h.nms e he
    simp only [isNm, Bool.and_eq_true, decide_eq_true_eq] at h2
    rw [e1] at h2
    exact decide_eq_true (by omega)
  simp only [sortedKeys, hsz, show f.length * 16 ≤ 140737488355328 by omega, decide_true, Bool.true_and, cond_true, hnm]
end Go.Proofs.YtkignmhjbjgkoaaGreat
