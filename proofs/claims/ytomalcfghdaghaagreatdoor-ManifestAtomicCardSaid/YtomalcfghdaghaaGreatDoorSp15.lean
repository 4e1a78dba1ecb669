/- Plain laws, 3: one pending operation, and all of them, in the reference and in the program. -/
import Derived.Test.YtomalcfghdaghaaGreatDoorSp2
import Derived.Test.YtomalcfghdaghaaGreatDoorWf
set_option linter.unusedVariables false
set_option linter.unusedSimpArgs false
namespace Go.Proofs.YtomalcfghdaghaaGreatDoor
open Go Go.AM

def ap (N : Int) (l : Dir) (x : GDirOp) : Dir × Bool :=
  bif x.Kind == 1 then (wi ⟨x.Name, x.Inode⟩ l, isNm x.Name && ((lkE x.Name l).isNone && (decide (x.Inode ≥ 0) && (decide (x.Inode < N) && (!usedE l x.Inode && decide (x.To = bE))))))
  else match lkE x.Name l with
    | none => (l, false)
    | some ino => bif x.Inode != 0 then (l, false) else bif x.Kind == 2 then (wi ⟨x.To, ino⟩ (wo (wo l x.Name) x.To), isNm x.To && !decide (x.To = x.Name)) else (wo l x.Name, x.Kind == 3 && decide (x.To = bE))
def aft (N : Int) : List GDirOp → Dir → Dir × Bool
  | [], l => (l, true)
  | x :: ops, l => bif (ap N l x).2 then aft N ops (ap N l x).1 else ((ap N l x).1, false)

theorem ap_len (N : Int) (l : Dir) (x : GDirOp) : (ap N l x).1.length ≤ l.length + 1 := by
  unfold ap
  cases x.Kind == 1 with
  | true => simp [len_wi]
  | false =>
    simp only [cond_false]
    cases lkE x.Name l with
    | none => simp
    | some ino =>
      cases x.Inode != 0 <;> simp only [cond_true, cond_false]
      · cases x.Kind == 2 <;> simp only [cond_true, cond_false]
        · have := len_wo l x.Name; omega
        · rw [len_wi]; have := len_wo l x.Name; have := len_wo (wo l x.Name) x.To; omega
      · omega

/-! ### The program's directory -/
theorem lk_is {N : Nat} {files : List (ByteArray × Int)} {taken : List Bool} {l : Dir} (h : Rd N files taken l) (k : ByteArray) : (lk k files).isSome = !(lkE k l).isNone := by
  rw [h.lks]; cases lkE k l <;> rfl
theorem rng_of {N : Nat} {files : List (ByteArray × Int)} {taken : List Bool} {l : Dir} (h : Rd N files taken l) {k : ByteArray} {ino : Int} (hk : lkE k l = some ino) : 0 ≤ ino ∧ ino < N := h.rng _ ((lkE_some h.srt).1 hk)
theorem blt_of {i n : Nat} (h : i < n) : Nat.blt i n = true := by rw [Nat.blt_eq]; exact h

theorem mayCreate_eq {N n : Nat} {files : List (ByteArray × Int)} {taken : List Bool} {l : Dir} (h : Rd N files taken l) (x : GDirOp) (hk : x.Kind = 1) (hn : 70 ≤ n) : disk_mayCreate n N x files taken = some ((ap N l x).2, files, taken) := by
  obtain ⟨m, rfl⟩ : ∃ m, n = m + 1 := ⟨n - 1, by omega⟩
  simp only [disk_mayCreate, isName_eq m x.Name (by omega), Option.bind_some, lk_is h, sEq_eq, Bool.not_not, ap, hk, beq_self_eq_true, cond_true]
  cases isNm x.Name <;> cases (lkE x.Name l).isNone <;> cases decide (x.To = bE) <;> simp only [cond_true, cond_false, Bool.true_and, Bool.false_and, Bool.and_true, Bool.and_false]
  by_cases h1 : x.Inode ≥ 0
  · by_cases h2 : x.Inode < (N : Int)
    · have h3 : (0 : Int) ≤ x.Inode := h1
      have hb : x.Inode.toNat < taken.length := by rw [h.len]; omega
      have ht := h.tkn x.Inode.toNat (by omega)
      have he : ((x.Inode.toNat : Nat) : Int) = x.Inode := by omega
      rw [he] at ht
      simp only [h1, h2, h3, decide_true, cond_true, Bool.and_true, Bool.true_and, blt_of hb, ht]
    · simp only [h1, h2, decide_true, decide_false, cond_true, cond_false, Bool.and_false, Bool.false_and]
  · simp only [h1, decide_false, cond_false, Bool.false_and]

theorem create_eq {N n : Nat} {files : List (ByteArray × Int)} {taken : List Bool} {l : Dir} (h : Rd N files taken l) (x : GDirOp) (hk : x.Kind = 1) (ha : (ap N l x).2 = true) (hn : 1 ≤ n) : ∃ f t, disk_create n N x files taken = some (f, t) ∧ Rd N f t (ap N l x).1 := by
  obtain ⟨m, rfl⟩ : ∃ m, n = m + 1 := ⟨n - 1, by omega⟩
  simp only [ap, hk, beq_self_eq_true, cond_true, Bool.and_eq_true, decide_eq_true_eq, Bool.not_eq_true'] at ha ⊢
  obtain ⟨h0, h1, h2, h3, h4, _⟩ := ha
  have h5 : (0 : Int) ≤ x.Inode := h2
  have hb : x.Inode.toNat < taken.length := by rw [h.len]; omega
  refine ⟨_, _, by simp only [disk_create, h3, h5, decide_true, Bool.and_true, cond_true, blt_of hb], h.create h2 h3 (by simpa using h1) h4 h0⟩

theorem mayRename_eq {N n : Nat} {files : List (ByteArray × Int)} {taken : List Bool} {l : Dir} (h : Rd N files taken l) (x : GDirOp) (hk : x.Kind = 2) (hn : 70 ≤ n) : disk_mayRename n N x files taken = some ((ap N l x).2, files, taken) := by
  obtain ⟨m, rfl⟩ : ∃ m, n = m + 1 := ⟨n - 1, by omega⟩
  simp only [disk_mayRename, isName_eq m x.To (by omega), Option.bind_some, lk_is h, sNe_eq, ap, hk, show ((2 : Int) == 1) = false by rfl, show ((2 : Int) == 2) = true by rfl, cond_true, cond_false]
  cases lkE x.Name l with
  | none => rfl
  | some ino =>
    simp only [Option.isNone_some, Bool.not_false, cond_true]
    cases hi : x.Inode == 0 <;> simp only [bne, hi, Bool.not_true, Bool.not_false, cond_true, cond_false] <;> cases isNm x.To <;> cases decide (x.To = x.Name) <;> rfl
theorem rename_eq {N n : Nat} {files : List (ByteArray × Int)} {taken : List Bool} {l : Dir} (h : Rd N files taken l) (x : GDirOp) (hk : x.Kind = 2) (ha : (ap N l x).2 = true) (hn : 1 ≤ n) : ∃ f t, disk_rename n N x files taken = some (f, t) ∧ Rd N f t (ap N l x).1 := by
  obtain ⟨m, rfl⟩ : ∃ m, n = m + 1 := ⟨n - 1, by omega⟩
  simp only [ap, hk, show ((2 : Int) == 1) = false by rfl, show ((2 : Int) == 2) = true by rfl, cond_true, cond_false] at ha ⊢
  cases hl : lkE x.Name l with
  | none => rw [hl] at ha; cases ha
  | some ino =>
    rw [hl] at ha
    simp only at ha
    cases hi : x.Inode != 0 with
    | true => rw [hi] at ha; cases ha
    | false =>
      rw [hi] at ha
      simp only [cond_false, Bool.and_eq_true, Bool.not_eq_true', decide_eq_false_iff_not] at ha ⊢
      have hR := h.rename hl ha.2 ha.1
      simp only [disk_rename, disk_rename_s0, h.lks, hl, Option.getD_some]
      cases ho : lkE x.To l with
      | none =>
        rw [ho] at hR
        exact ⟨_, _, rfl, hR⟩
      | some old =>
        rw [ho] at hR
        obtain ⟨r1, r2⟩ := rng_of h ho
        have hb : old.toNat < taken.length := by rw [h.len]; omega
        simp only [Option.isSome_some, cond_true, Option.getD_some, r1, r2, decide_true, Bool.and_true, blt_of hb]
        exact ⟨_, _, rfl, hR⟩
theorem mayRemove_eq {N n : Nat} {files : List (ByteArray × Int)} {taken : List Bool} {l : Dir} (h : Rd N files taken l) (x : GDirOp) (hk : x.Kind = 3) (hn : 1 ≤ n) : disk_mayRemove n N x files taken = some ((ap N l x).2, files, taken) := by
  obtain ⟨m, rfl⟩ : ∃ m, n = m + 1 := ⟨n - 1, by omega⟩
  simp only [disk_mayRemove, lk_is h, sEq_eq, ap, hk, show ((3 : Int) == 1) = false by rfl, show ((3 : Int) == 2) = false by rfl, show ((3 : Int) == 3) = true by rfl, cond_false]
  cases lkE x.Name l with
  | none => rfl
  | some ino =>
    simp only [Option.isNone_some, Bool.not_false, cond_true]
    cases hi : x.Inode == 0 <;> simp only [bne, hi, Bool.not_true, Bool.not_false, cond_true, cond_false] <;> cases decide (x.To = bE) <;> rfl
theorem remove_eq {N n : Nat} {files : List (ByteArray × Int)} {taken : List Bool} {l : Dir} (h : Rd N files taken l) (x : GDirOp) (hk : x.Kind = 3) (ha : (ap N l x).2 = true) (hn : 1 ≤ n) : ∃ f t, disk_remove n N x files taken = some (f, t) ∧ Rd N f t (ap N l x).1 := by
  obtain ⟨m, rfl⟩ : ∃ m, n = m + 1 := ⟨n - 1, by omega⟩
  simp only [ap, hk, show ((3 : Int) == 1) = false by rfl, show ((3 : Int) == 2) = false by rfl, show ((3 : Int) == 3) = true by rfl, cond_false] at ha ⊢
  cases hl : lkE x.Name l with
  | none => rw [hl] at ha; cases ha
  | some ino =>
    rw [hl] at ha
    simp only at ha
    cases hi : x.Inode != 0 with
    | true => rw [hi] at ha; cases ha
    | false =>
      obtain ⟨r1, r2⟩ := rng_of h hl
      have hb : ino.toNat < taken.length := by rw [h.len]; omega
      simp only [disk_remove, h.lks, hl, Option.getD_some, r1, r2, decide_true, Bool.and_true, cond_true, cond_false, blt_of hb]
      exact ⟨_, _, rfl, h.remove hl⟩
/-- An operation of no kind is refused. -/
theorem ap_none {N : Int} {l : Dir} {x : GDirOp} (h1 : x.Kind ≠ 1) (h2 : x.Kind ≠ 2) (h3 : x.Kind ≠ 3) : (ap N l x).2 = false := by
  have e1 : (x.Kind == 1) = false := by simpa using h1
  have e2 : (x.Kind == 2) = false := by simpa using h2
  have e3 : (x.Kind == 3) = false := by simpa using h3
  simp only [ap, e1, e2, e3, cond_false, Bool.false_and]
  cases lkE x.Name l with
  | none => rfl
  | some ino => cases x.Inode != 0 <;> rfl
end Go.Proofs.YtomalcfghdaghaaGreatDoor

/- Plain laws, 4: which disks are valid, and their directories. -/
set_option linter.unusedVariables false
set_option linter.unusedSimpArgs false
namespace Go.Proofs.YtomalcfghdaghaaGreatDoor
open Go Go.AM

def okI (x : GInode) : Bool := decide (x.Data.size ≤ 1048576) && (decide (0 ≤ x.Synced) && decide (x.Synced ≤ (x.Data.size : Int)))
def okD (N : Nat) (D : Dir) (i : Nat) : Bool :=
  isNm (D.getD i dGDirEntry).Name && ((decide (i = 0) || decide (ky (D.getD (i - 1) dGDirEntry).Name < ky (D.getD i dGDirEntry).Name)) && (decide (0 ≤ (D.getD i dGDirEntry).Inode) && (decide ((D.getD i dGDirEntry).Inode < (N : Int)) && !usedE (D.take i) (D.getD i dGDirEntry).Inode)))
def durB (N : Nat) (D : Dir) (i : Nat) : Nat → Bool
  | 0 => true
  | k + 1 => okD N D i && durB N D (i + 1) k
def durA (d : GDisk) : Bool := durB d.Inodes.length d.Durable 0 d.Durable.length
def cur (d : GDisk) : Dir × Bool := aft (d.Inodes.length : Int) d.Pending d.Durable
def valid (d : GDisk) : Bool := decide (d.Inodes.length ≤ 1000) && (decide (d.Pending.length ≤ 1000) && (decide (-1 ≤ d.Left) && (d.Inodes.all okI && (durA d && (cur d).2))))

theorem take_succ {α : Type} {l : List α} {i : Nat} {d : α} (h : i < l.length) : l.take (i + 1) = l.take i ++ [l.getD i d] := by
  rw [List.take_add_one]; simp [List.getD, List.getElem?_eq_getElem h]
theorem wi_last {x : GDirEntry} : ∀ {l : Dir}, (∀ a ∈ l, ky a.Name < ky x.Name) → wi x l = l ++ [x]
  | [], _ => rfl
  | e :: l, h => by
    have h1 := h e (by simp)
    have : sGt e.Name x.Name = false := by
      cases hg : sGt e.Name x.Name with
      | false => rfl
      | true => exact absurd (gt_iff.1 hg) (ky_lt_asymm h1)
    simp only [wi, this, cond_false, List.cons_append]
    rw [wi_last fun a ha => h a (by simp [ha])]

theorem below_all {N : Nat} {files : List (ByteArray × Int)} {taken : List Bool} {D : Dir} {i : Nat} {x : GDirEntry} (h : Srt (D.take i)) (hi : i ≤ D.length) (hx : i = 0 ∨ ky (D.getD (i - 1) dGDirEntry).Name < ky x.Name) : ∀ a ∈ D.take i, ky a.Name < ky x.Name := by
  intro a ha
  rcases hx with h0 | hx
  · subst h0; simp at ha
  · by_cases h0 : i = 0
    · subst h0; simp at ha
    · obtain ⟨j, rfl⟩ : ∃ j, i = j + 1 := ⟨i - 1, by omega⟩
      rw [take_succ (d := dGDirEntry) (show j < D.length by omega)] at ha h
      simp only [Nat.add_sub_cancel] at hx
      rcases List.mem_append.1 ha with ha | ha
      · have := (List.pairwise_append.1 h).2.2 a ha _ (List.mem_singleton.2 rfl)
        exact ky_lt_trans this hx
      · simp at ha; subst ha; exact hx

theorem durable_l0 (n : Nat) (d : GDisk) (hn : 70 ≤ n) (hD : d.Durable.length ≤ 1000000000) : ∀ (k i m : Nat) (files : List (ByteArray × Int)) (taken : List Bool), i + k = d.Durable.length → Rd d.Inodes.length files taken (d.Durable.take i) → k < m →
    ∃ f t, disk_durable_l0 n d m (d.Durable.length : Int) (i : Int) files taken = some (d.Inodes.length, durB d.Inodes.length d.Durable i k, f, t) ∧ (durB d.Inodes.length d.Durable i k = true → Rd d.Inodes.length f t d.Durable)
  | k, i, 0, _, _, _, _, h => by omega
  | 0, i, m + 1, files, taken, h, hR, _ => by
    have : ¬ ((i : Int) < (d.Durable.length : Int)) := by omega
    refine ⟨files, taken, by simp only [disk_durable_l0, disk_durable_s1, this, decide_false, cond_false, durB], fun _ => ?_⟩
    rwa [List.take_of_length_le (by omega)] at hR
  | k + 1, i, m + 1, files, taken, h, hR, h2 => by
    have hw := wr1 i (by omega)
    have hlt : (i : Int) < (d.Durable.length : Int) := by omega
    have h0 : (0 : Int) ≤ (i : Int) := by omega
    obtain ⟨e, he⟩ : ∃ e, d.Durable.getD i dGDirEntry = e := ⟨_, rfl⟩
    -- what comes behind the comparison with the name ahead
    have hrest : ∀ (b : Bool), (b = true → i = 0 ∨ ky (d.Durable.getD (i - 1) dGDirEntry).Name < ky e.Name) → b = (decide (i = 0) || decide (ky (d.Durable.getD (i - 1) dGDirEntry).Name < ky e.Name)) → isNm e.Name = true → b = true →
        ∃ f t, (bif decide (e.Inode < 0) then some (d.Inodes.length, false, files, taken) else bif decide (e.Inode ≥ (d.Inodes.length : Int)) then some (d.Inodes.length, false, files, taken) else bif decide ((0 : Int) ≤ e.Inode) && decide (e.Inode < (d.Inodes.length : Int)) then
          bif Nat.blt e.Inode.toNat taken.length then bif taken.getD e.Inode.toNat false then some (d.Inodes.length, false, files, taken) else bif decide ((0 : Int) ≤ e.Inode) && decide (e.Inode < (d.Inodes.length : Int)) then bif Nat.blt e.Inode.toNat taken.length then
            disk_durable_l0 n d m (d.Durable.length : Int) ((i + 1 : Nat) : Int) (putL e.Name e.Inode files) (taken.set e.Inode.toNat true) else none else none else none else none) = some (d.Inodes.length, durB d.Inodes.length d.Durable i (k + 1), f, t) ∧ (durB d.Inodes.length d.Durable i (k + 1) = true → Rd d.Inodes.length f t d.Durable) := by
      intro b hb1 hb2 hnm hbt
      have hlast := hb1 hbt
      simp only [durB, okD, he, hnm, ← hb2, hbt, Bool.true_and]
      by_cases c1 : e.Inode < 0
      · have : ¬ (0 : Int) ≤ e.Inode := by omega
        exact ⟨files, taken, by simp only [c1, this, decide_true, decide_false, cond_true, Bool.false_and], by simp [this]⟩
      · have c1' : (0 : Int) ≤ e.Inode := by omega
        by_cases c2 : e.Inode ≥ (d.Inodes.length : Int)
        · have : ¬ e.Inode < (d.Inodes.length : Int) := by omega
          exact ⟨files, taken, by simp only [c1, c2, this, decide_true, decide_false, cond_true, cond_false, Bool.false_and, Bool.and_false], by simp [this]⟩
        · have c2' : e.Inode < (d.Inodes.length : Int) := by omega
          have hbl : e.Inode.toNat < taken.length := by rw [hR.len]; omega
          have ht := hR.tkn e.Inode.toNat (by omega)
          have hee : ((e.Inode.toNat : Nat) : Int) = e.Inode := by omega
          rw [hee] at ht
          simp only [c1, c1', c2, c2', decide_true, decide_false, cond_true, cond_false, Bool.and_true, Bool.true_and, blt_of hbl, ht]
          cases hu : usedE (d.Durable.take i) e.Inode with
          | true => exact ⟨files, taken, rfl, fun h => by cases h⟩
          | false =>
            simp only [cond_false, Bool.not_false, Bool.true_and]
            have hall := below_all (N := d.Inodes.length) (files := files) (taken := taken) hR.srt (by omega) hlast
            have hno : lkE e.Name (d.Durable.take i) = none := lkE_none.2 fun a ha hh => by have := hall a ha; rw [hh] at this; exact ky_lt_irrefl _ this
            have hR' := hR.create c1' c2' hno hu hnm
            rw [wi_last hall] at hR'
            have htk := take_succ (d := dGDirEntry) (show i < d.Durable.length by omega)
            rw [he] at htk
            have hR2 : Rd d.Inodes.length (putL e.Name e.Inode files) (taken.set e.Inode.toNat true) (d.Durable.take (i + 1)) := by rw [htk]; exact hR'
            exact durable_l0 n d hn hD k (i + 1) m _ _ (by omega) hR2 (by omega)
    simp only [disk_durable_l0, hlt, h0, decide_true, Bool.and_true, cond_true, toNat_c, hw, he, isName_eq n e.Name (by omega), Option.bind_some]
    cases hnm : isNm e.Name with
    | false =>
      refine ⟨files, taken, by simp only [durB, okD, he, hnm, Bool.false_and, Bool.not_false, cond_true], ?_⟩
      intro hh; simp only [durB, okD, he, hnm, Bool.false_and] at hh; cases hh
    | true =>
      simp only [Bool.not_true, cond_false]
      by_cases hi : i = 0
      · have : ¬ (i : Int) > 0 := by omega
        simp only [this, decide_false, cond_false]
        exact hrest true (fun _ => .inl hi) (by simp [hi]) hnm rfl
      · have hgt : (i : Int) > 0 := by omega
        obtain ⟨j, rfl⟩ : ∃ j, i = j + 1 := ⟨i - 1, by omega⟩
        have hp := wrp j (by omega)
        have q1 : (0 : Int) ≤ (j : Int) := by omega
        have q2 : (j : Int) < (d.Durable.length : Int) := by omega
        simp only [hgt, hp, q1, q2, decide_true, Bool.and_true, cond_true, toNat_c]
        cases hs : sLe e.Name (d.Durable.getD j dGDirEntry).Name with
        | true =>
          have hnl : ¬ ky (d.Durable.getD j dGDirEntry).Name < ky e.Name := by
            rw [sLe_eq] at hs
            simp only [Bool.or_eq_true, decide_eq_true_eq] at hs
            rcases hs with h | h
            · exact ky_lt_asymm h
            · rw [h]; exact ky_lt_irrefl _
          have hok : okD d.Inodes.length d.Durable (j + 1) = false := by
            simp only [okD, he, Nat.add_sub_cancel, hnl, decide_false, show ¬ (j + 1 = 0) by omega, Bool.or_false, Bool.false_and, Bool.and_false]
          refine ⟨files, taken, by simp only [durB, hok, Bool.false_and, cond_true], ?_⟩
          intro hh
          simp only [durB, hok, Bool.false_and] at hh; cases hh
        | false =>
          have hl : ky (d.Durable.getD j dGDirEntry).Name < ky e.Name := by
            rw [sLe_eq] at hs
            simp only [Bool.or_eq_false_iff, decide_eq_false_iff_not] at hs
            rcases ky_tri e.Name (d.Durable.getD j dGDirEntry).Name with h | h | h
            · exact absurd h hs.1
            · exact absurd h hs.2
            · exact h
          simp only [cond_false]
          exact hrest true (fun _ => .inr (by rw [Nat.add_sub_cancel]; exact hl)) (by rw [Nat.add_sub_cancel]; simp only [hl, decide_true, Bool.or_true]) hnm rfl

theorem rd0 (N : Nat) : Rd N [] (List.replicate N false) [] := by
  refine ⟨List.Pairwise.nil, fun _ => rfl, by simp, fun e he => by simp at he, fun a ha => by simp at ha, by simp, fun i hi => ?_, ?_⟩
  · simp [List.getD, usedE, hi]
  · intro e he; simp at he
theorem durable_eq (n : Nat) (d : GDisk) (hn : d.Durable.length + 80 ≤ n) (hD : d.Durable.length ≤ 1000000000) (hI : d.Inodes.length ≤ 1000000) :
    ∃ f t, disk_durable n d = some (d.Inodes.length, durA d, f, t) ∧ (durA d = true → Rd d.Inodes.length f t d.Durable) := by
  obtain ⟨m, rfl⟩ : ∃ m, n = m + 1 := ⟨n - 1, by omega⟩
  have h1 : (0 : Int) ≤ (d.Inodes.length : Int) := by omega
  have h2 : (d.Inodes.length : Int) * 1 ≤ 140737488355328 := by omega
  have h3 : (d.Inodes.length : Int) ≤ 9223372036854775807 := by omega
  simp only [disk_durable, h1, h2, h3, decide_true, Bool.and_true, cond_true]
  exact durable_l0 m d (by omega) hD d.Durable.length 0 m [] _ (by omega) (by simpa using rd0 _) (by omega)

/-- What the program says of its directory. -/
def curOut (d : GDisk) (r : disk_current_R) : Prop :=
  if valid d = true then ∃ f t, r = .c2 d.Inodes.length f t ∧ Rd d.Inodes.length f t (cur d).1 else ∀ a f t, r ≠ .c2 a f t

theorem current_l2 (n : Nat) (N : Nat) (r1 : Nat × Bool × (List (ByteArray × Int)) × (List Bool)) (h1 : r1.1 = N) (d : GDisk) (hn : 80 ≤ n) (hP : d.Pending.length ≤ 1000000000) : ∀ (k i m : Nat) (f : List (ByteArray × Int)) (t : List Bool) (l : Dir), i + k = d.Pending.length → Rd N f t l → k < m →
    ∃ r, disk_current_l2 n r1 d m (d.Pending.length : Int) (i : Int) f t = some r ∧ (if (aft N (d.Pending.drop i) l).2 = true then ∃ f' t', r = .c2 N f' t' ∧ Rd N f' t' (aft N (d.Pending.drop i) l).1 else ∀ a f t, r ≠ .c2 a f t)
  | k, i, 0, _, _, _, _, _, h => by omega
  | 0, i, m + 1, f, t, l, h, hR, _ => by
    have : ¬ ((i : Int) < (d.Pending.length : Int)) := by omega
    have h2 : d.Pending.drop i = [] := List.drop_eq_nil_of_le (by omega)
    refine ⟨_, by simp only [disk_current_l2, disk_current_s3, this, decide_false, cond_false]; rfl, ?_⟩
    rw [h2, h1]
    simp only [aft, if_true]
    exact ⟨f, t, rfl, hR⟩
  | k + 1, i, m + 1, f, t, l, h, hR, h2 => by
    have hw := wr1 i (by omega)
    have hlt : (i : Int) < (d.Pending.length : Int) := by omega
    have h0 : (0 : Int) ≤ (i : Int) := by omega
    rw [getD_drop (d := dGDirOp) (show i < d.Pending.length by omega)]
    obtain ⟨x, hx⟩ : ∃ x, d.Pending.getD i dGDirOp = x := ⟨_, rfl⟩
    obtain ⟨q, rfl⟩ : ∃ q, n = q + 1 := ⟨n - 1, by omega⟩
    simp only [disk_current_l2, hlt, h0, decide_true, Bool.and_true, cond_true, toNat_c, hw, hx, disk_operationOf, aft, h1]
    have bad : (ap N l x).2 = false → ∀ r : disk_current_R, (∀ a f t, r ≠ .c2 a f t) → (if (bif (ap N l x).2 then aft N (d.Pending.drop (i + 1)) (ap N l x).1 else ((ap N l x).1, false)).2 = true then ∃ f' t', r = .c2 N f' t' ∧ Rd N f' t' (bif (ap N l x).2 then aft N (d.Pending.drop (i + 1)) (ap N l x).1 else ((ap N l x).1, false)).1 else ∀ a f t, r ≠ .c2 a f t) := fun hb r hr => by
      rw [hb]; simpa using hr
    by_cases k1 : x.Kind = 1
    · simp only [k1, show ((1 : Int) == 1) = true by rfl, cond_true, Option.bind_some, mayCreate_eq hR x k1 (show 70 ≤ q + 1 by omega)]
      cases ha : (ap N l x).2 with
      | false => exact ⟨.c1 [] f t, rfl, by simp⟩
      | true =>
        obtain ⟨f', t', e1, e2⟩ := create_eq (n := q + 1) hR x k1 ha (by omega)
        simp only [Bool.not_true, cond_false, cond_true, e1, Option.bind_some]
        exact current_l2 (q + 1) N r1 h1 d hn hP k (i + 1) m f' t' _ (by omega) e2 (by omega)
    · have e1 : (x.Kind == 1) = false := by simpa using k1
      by_cases k2 : x.Kind = 2
      · simp only [k2, show ((2 : Int) == 1) = false by rfl, show ((2 : Int) == 2) = true by rfl, cond_true, cond_false, Option.bind_some, mayRename_eq hR x k2 (show 70 ≤ q + 1 by omega)]
        cases ha : (ap N l x).2 with
        | false => exact ⟨.c1 [] f t, rfl, by simp⟩
        | true =>
          obtain ⟨f', t', e1, e2⟩ := rename_eq (n := q + 1) hR x k2 ha (by omega)
          simp only [Bool.not_true, cond_false, cond_true, e1, Option.bind_some]
          exact current_l2 (q + 1) N r1 h1 d hn hP k (i + 1) m f' t' _ (by omega) e2 (by omega)
      · have e2 : (x.Kind == 2) = false := by simpa using k2
        by_cases k3 : x.Kind = 3
        · simp only [k3, show ((3 : Int) == 1) = false by rfl, show ((3 : Int) == 2) = false by rfl, show ((3 : Int) == 3) = true by rfl, cond_true, cond_false, Option.bind_some, mayRemove_eq hR x k3 (show 1 ≤ q + 1 by omega)]
          cases ha : (ap N l x).2 with
          | false => exact ⟨.c1 [] f t, rfl, by simp⟩
          | true =>
            obtain ⟨f', t', e1, e2⟩ := remove_eq (n := q + 1) hR x k3 ha (by omega)
            simp only [Bool.not_true, cond_false, cond_true, e1, Option.bind_some]
            exact current_l2 (q + 1) N r1 h1 d hn hP k (i + 1) m f' t' _ (by omega) e2 (by omega)
        · have e3 : (x.Kind == 3) = false := by simpa using k3
          simp only [e1, e2, e3, cond_false, Option.bind_some]
          exact ⟨.c1 [] f t, rfl, bad (ap_none k1 k2 k3) _ (by simp)⟩

theorem current_s1 (n : Nat) (d : GDisk) (hn : d.Durable.length + 1100 ≤ n) (hD : d.Durable.length ≤ 1000000000) (hI : d.Inodes.length ≤ 1000) (hP : d.Pending.length ≤ 1000) (hL : -1 ≤ d.Left) (hO : d.Inodes.all okI = true) : ∃ r, disk_current_s1 n d = some r ∧ curOut d r := by
  obtain ⟨f, t, h1, h2⟩ := durable_eq n d (by omega) hD (by omega)
  simp only [disk_current_s1, h1, Option.bind_some, curOut, valid, hI, hP, hL, hO, decide_true, Bool.true_and]
  cases hd : durA d with
  | false => exact ⟨_, rfl, by simp⟩
  | true =>
    simp only [Bool.not_true, cond_false, Bool.true_and]
    exact current_l2 n d.Inodes.length (d.Inodes.length, true, f, t) rfl d (by omega) (by omega) d.Pending.length 0 n f t d.Durable (by omega) (h2 hd) (by omega)

theorem current_l0 (n : Nat) (d : GDisk) (hn : d.Durable.length + 1100 ≤ n) (hD : d.Durable.length ≤ 1000000000) (hI : d.Inodes.length ≤ 1000) (hP : d.Pending.length ≤ 1000) (hL : -1 ≤ d.Left) : ∀ (k i m : Nat), i + k = d.Inodes.length → (d.Inodes.take i).all okI = true → k < m →
    ∃ r, disk_current_l0 n d m (d.Inodes.length : Int) (i : Int) = some r ∧ curOut d r
  | k, i, 0, _, _, h => by omega
  | 0, i, m + 1, h, hO, _ => by
    have : ¬ ((i : Int) < (d.Inodes.length : Int)) := by omega
    rw [List.take_of_length_le (by omega)] at hO
    simp only [disk_current_l0, this, decide_false, cond_false]
    exact current_s1 n d hn hD hI hP hL hO
  | k + 1, i, m + 1, h, hO, h2 => by
    have hw := wr1 i (by omega)
    have hlt : (i : Int) < (d.Inodes.length : Int) := by omega
    have h0 : (0 : Int) ≤ (i : Int) := by omega
    have hm : d.Inodes.getD i dGInode ∈ d.Inodes := by
      have := List.drop_subset i d.Inodes; rw [getD_drop (d := dGInode) (show i < d.Inodes.length by omega)] at this; exact this (by simp)
    have htk := take_succ (d := dGInode) (show i < d.Inodes.length by omega)
    obtain ⟨x, hx⟩ : ∃ x, d.Inodes.getD i dGInode = x := ⟨_, rfl⟩
    rw [hx] at hm htk
    have bad : okI x = false → ∀ r : disk_current_R, (∀ a f t, r ≠ .c2 a f t) → curOut d r := fun hb r hr => by
      have : d.Inodes.all okI = false := by
        cases ha : d.Inodes.all okI with
        | false => rfl
        | true => rw [List.all_eq_true.1 ha x hm] at hb; cases hb
      unfold curOut
      rw [if_neg (by simp [valid, this])]
      exact hr
    simp only [disk_current_l0, hlt, h0, decide_true, Bool.and_true, cond_true, toNat_c, hw, hx]
    by_cases c1 : (x.Data.size : Int) > 1048576
    · simp only [c1, decide_true, cond_true]
      exact ⟨_, rfl, bad (by simp only [okI, show ¬ x.Data.size ≤ 1048576 by omega, decide_false, Bool.false_and]) _ (by simp)⟩
    · by_cases c2 : x.Synced < 0
      · simp only [c1, c2, decide_true, decide_false, cond_true, cond_false]
        exact ⟨_, rfl, bad (by simp only [okI, show ¬ 0 ≤ x.Synced by omega, decide_false, Bool.false_and, Bool.and_false]) _ (by simp)⟩
      · by_cases c3 : x.Synced > (x.Data.size : Int)
        · simp only [c1, c2, c3, decide_true, decide_false, cond_true, cond_false]
          exact ⟨_, rfl, bad (by simp only [okI, show ¬ x.Synced ≤ (x.Data.size : Int) by omega, decide_false, Bool.and_false]) _ (by simp)⟩
        · simp only [c1, c2, c3, decide_false, cond_false]
          refine current_l0 n d hn hD hI hP hL k (i + 1) m (by omega) ?_ (by omega)
          rw [htk, List.all_append, hO]
          simp only [List.all_cons, List.all_nil, Bool.and_true, Bool.true_and, okI, show x.Data.size ≤ 1048576 by omega, show 0 ≤ x.Synced by omega, show x.Synced ≤ (x.Data.size : Int) by omega, decide_true]

theorem current_eq (n : Nat) (d : GDisk) (hn : d.Durable.length + 1101 ≤ n) (hD : d.Durable.length ≤ 1000000000) : ∃ r, disk_current n d = some r ∧ curOut d r := by
  obtain ⟨m, rfl⟩ : ∃ m, n = m + 1 := ⟨n - 1, by omega⟩
  simp only [disk_current]
  by_cases c1 : (d.Inodes.length : Int) > 1000
  · simp only [c1, decide_true, cond_true]
    refine ⟨_, rfl, ?_⟩
    unfold curOut; rw [if_neg (by simp only [valid, show ¬ d.Inodes.length ≤ 1000 by omega, decide_false, Bool.false_and]; simp)]; simp
  · by_cases c2 : (d.Pending.length : Int) > 1000
    · simp only [c1, c2, decide_true, decide_false, cond_true, cond_false]
      refine ⟨_, rfl, ?_⟩
      unfold curOut; rw [if_neg (by simp only [valid, show ¬ d.Pending.length ≤ 1000 by omega, decide_false, Bool.false_and, Bool.and_false]; simp)]; simp
    · by_cases c3 : d.Left < -1
      · simp only [c1, c2, c3, decide_true, decide_false, cond_true, cond_false]
        refine ⟨_, rfl, ?_⟩
        unfold curOut; rw [if_neg (by simp only [valid, show ¬ -1 ≤ d.Left by omega, decide_false, Bool.false_and, Bool.and_false]; simp)]; simp
      · simp only [c1, c2, c3, decide_false, cond_false]
        exact current_l0 m d (by omega) hD (by omega) (by omega) (by omega) d.Inodes.length 0 m (by omega) (by simp) (by omega)
end Go.Proofs.YtomalcfghdaghaaGreatDoor

/- Plain laws, 5: the reference's check; files are found and read alike. -/
set_option linter.unusedVariables false
set_option linter.unusedSimpArgs false
namespace Go.Proofs.YtomalcfghdaghaaGreatDoor
open Go Go.AM

/-- Sizes. -/
structure Bd (B : Nat) (d : GDisk) : Prop where
  dn : ∀ e ∈ d.Durable, e.Name.size ≤ B
  pn : ∀ x ∈ d.Pending, x.Name.size + x.To.size ≤ B
  dl : d.Durable.length ≤ B
  pl : d.Pending.length ≤ B
  il : d.Inodes.length ≤ B
  big : B ≤ 100000

theorem check_eq (n B : Nat) (d : GDisk) (hb : Bd B d) (hn : B + 1110 ≤ n) : disk_Check n d = some (bif valid d then 0 else 1) := by
  obtain ⟨m, rfl⟩ : ∃ m, n = m + 1 := ⟨n - 1, by omega⟩
  have hB := hb.big; have hdl := hb.dl
  obtain ⟨r, h1, h2⟩ := current_eq m d (by omega) (by omega)
  simp only [disk_Check, h1, Option.bind_some]
  unfold curOut at h2
  cases hv : valid d with
  | true =>
    rw [if_pos hv] at h2
    obtain ⟨f, t, rfl, _⟩ := h2; rfl
  | false =>
    rw [if_neg (by simp [hv])] at h2
    cases r with
    | c0 a => rfl
    | c1 a b c => rfl
    | c2 a f t => exact absurd rfl (h2 a f t)

/-- The current directory of a valid disk. -/
theorem cur_rd {d : GDisk} (hv : valid d = true) (hD : d.Durable.length ≤ 1000000000) : ∃ f t, Rd d.Inodes.length f t (cur d).1 := by
  obtain ⟨r, h1, h2⟩ := current_eq (d.Durable.length + 1101) d (by omega) hD
  unfold curOut at h2
  rw [if_pos hv] at h2
  obtain ⟨f, t, _, h⟩ := h2
  exact ⟨f, t, h⟩
theorem valid_il {d : GDisk} (hv : valid d = true) : d.Inodes.length ≤ 1000 ∧ d.Pending.length ≤ 1000 ∧ -1 ≤ d.Left ∧ d.Inodes.all okI = true ∧ durA d = true ∧ (cur d).2 = true := by
  simpa [valid, and_assoc] using hv
/-- What finding a file gives. -/
def fnd (d : GDisk) (name : ByteArray) : Int × Int := bif valid d then (match lkE name (cur d).1 with | none => (0, 7) | some i => (i, 0)) else (0, 1)
theorem find_d (n B : Nat) (d : GDisk) (name : ByteArray) (hb : Bd B d) (hn : B + 1110 ≤ n) : disk_find n d name = some (fnd d name) := by
  obtain ⟨m, rfl⟩ : ∃ m, n = m + 1 := ⟨n - 1, by omega⟩
  have hB := hb.big; have hdl := hb.dl
  obtain ⟨r, h1, h2⟩ := current_eq m d (by omega) (by omega)
  simp only [disk_find, h1, Option.bind_some, fnd]
  unfold curOut at h2
  cases hv : valid d with
  | true =>
    rw [if_pos hv] at h2
    obtain ⟨f, t, rfl, hR⟩ := h2
    simp only [cond_true, lk_is hR, hR.lks, Bool.not_not]
    cases lkE name (cur d).1 <;> rfl
  | false =>
    rw [if_neg (by simp [hv])] at h2
    cases r with
    | c0 a => rfl
    | c1 a b c => rfl
    | c2 a f t => exact absurd rfl (h2 a f t)
theorem fnd_in {d : GDisk} {name : ByteArray} (hD : d.Durable.length ≤ 1000000000) (h : (fnd d name).2 = 0) : valid d = true ∧ 0 ≤ (fnd d name).1 ∧ (fnd d name).1 < d.Inodes.length := by
  unfold fnd at *
  cases hv : valid d with
  | false => rw [hv] at h; simp at h
  | true =>
    obtain ⟨f, t, hR⟩ := cur_rd hv hD
    rw [hv] at h
    simp only [cond_true] at *
    cases hl : lkE name (cur d).1 with
    | none => rw [hl] at h; simp at h
    | some i => exact ⟨trivial, rng_of hR hl⟩

/-- Reading. -/
def rdF (d : GDisk) (name : ByteArray) : ByteArray × Int := bif (fnd d name).2 == 0 then ((d.Inodes.getD (fnd d name).1.toNat dGInode).Data, 0) else (bE, (fnd d name).2)
theorem read_d (n B : Nat) (d : GDisk) (name : ByteArray) (hb : Bd B d) (hn : B + 1120 ≤ n) : disk_Read n d name = some (rdF d name) := by
  obtain ⟨m, rfl⟩ : ∃ m, n = m + 1 := ⟨n - 1, by omega⟩
  have hB := hb.big; have hdl := hb.dl
  simp only [disk_Read, find_d m B d name hb (by omega), Option.bind_some, rdF, bne]
  cases h : (fnd d name).2 == 0 with
  | false => rfl
  | true =>
    obtain ⟨_, h1, h2⟩ := fnd_in (name := name) (d := d) (by omega) (by simpa using h)
    simp only [Bool.not_true, cond_false, cond_true, h1, h2, decide_true, Bool.and_true]
theorem sorted_rd {N : Nat} {f : List (ByteArray × Int)} {t : List Bool} {l : Dir} (h : Rd N f t l) (n : Nat) (hn : 1 ≤ n) (hl : l.length ≤ 1000000000) : sortedKeys n f = some (l.map (·.Name)) := by
  obtain ⟨m, rfl⟩ : ∃ m, n = m + 1 := ⟨n - 1, by omega⟩
  have hnm := h.names
  have hlen : f.length = l.length := by
    have := (perm_isort (f.map (·.1))).length_eq
    rw [hnm] at this; simpa using this.symm
  have hsz : f.all (fun p => decide (p.1.size ≤ 9223372036854775807)) = true := List.all_eq_true.2 fun p hp => by
    have h1 : p.1 ∈ isort (f.map (·.1)) := (perm_isort _).mem_iff.2 (List.mem_map.2 ⟨p, hp, rfl⟩)
    rw [hnm] at h1
    obtain ⟨e, he, e1⟩ := List.mem_map.1 h1
    have h2 := h.nms e he
    simp only [isNm, Bool.and_eq_true, decide_eq_true_eq] at h2
    rw [e1] at h2
    exact decide_eq_true (by omega)
  simp only [sortedKeys, hsz, show f.length * 16 ≤ 140737488355328 by omega, decide_true, Bool.true_and, cond_true, hnm]
end Go.Proofs.YtomalcfghdaghaaGreatDoor

/- Plain laws, 6: a loss of power; disks held against each other. -/
set_option linter.unusedVariables false
set_option linter.unusedSimpArgs false
namespace Go.Proofs.YtomalcfghdaghaaGreatDoor
open Go Go.AM

/-- A pick. -/
def pk (picks : List Int) (i : Nat) (n : Int) : Int := if i < picks.length then (if (picks.getD i 0).tmod n < 0 then (picks.getD i 0).tmod n + n else (picks.getD i 0).tmod n) else 0
theorem pk_in (picks : List Int) (i : Nat) (n : Int) (hn : 0 < n) : 0 ≤ pk picks i n ∧ pk picks i n < n := by
  have h1 := Int.tmod_lt_of_pos (picks.getD i 0) hn
  have h2 := Int.lt_tmod_of_pos (picks.getD i 0) hn
  unfold pk
  split
  · split <;> omega
  · omega
theorem c1_eq (n : Nat) (k : Int) (picks : List Int) (i : Nat) (hn : 1 ≤ n) (h0 : 0 < k) (hk : k ≤ 1000000000) (hp : picks.length ≤ 1000000000) :
    disk_Crash_c1 n k picks ((min i picks.length : Nat) : Int) = some (pk picks i k, picks, ((min (i + 1) picks.length : Nat) : Int)) := by
  obtain ⟨m, rfl⟩ : ∃ m, n = m + 1 := ⟨n - 1, by omega⟩
  by_cases hi : i < picks.length
  · have e1 : min i picks.length = i := by omega
    have e2 : min (i + 1) picks.length = i + 1 := by omega
    have h1 := Int.tmod_lt_of_pos (picks.getD i 0) h0
    have h2 := Int.lt_tmod_of_pos (picks.getD i 0) h0
    rw [e1, e2]
    simp only [disk_Crash_c1, show ¬ ((i : Int) ≥ (picks.length : Int)) by omega, show (0 : Int) ≤ (i : Int) by omega, show (i : Int) < (picks.length : Int) by omega, decide_true, decide_false, Bool.and_true, cond_true, cond_false, toNat_c, show (k != 0) = true by simp; omega, wr1 i (by omega), pk, hi, if_true]
    by_cases c : (picks.getD i 0).tmod k < 0
    · simp only [c, decide_true, cond_true, if_true, wr ((picks.getD i 0).tmod k + k) (by omega) (by omega)]
    · simp only [c, decide_false, cond_false, if_false]
  · have e1 : min i picks.length = picks.length := by omega
    have e2 : min (i + 1) picks.length = picks.length := by omega
    rw [e1, e2]
    simp only [disk_Crash_c1, show ((picks.length : Int) ≥ (picks.length : Int)) by omega, decide_true, cond_true, pk, hi, if_false]
theorem aft_take (N : Int) : ∀ (ops : List GDirOp) (l : Dir) (c : Nat), (aft N ops l).2 = true → (aft N (ops.take c) l).2 = true
  | [], l, c, _ => by simp [aft]
  | x :: ops, l, 0, _ => by simp [aft]
  | x :: ops, l, c + 1, h => by
    simp only [aft, List.take_succ_cons] at h ⊢
    cases ha : (ap N l x).2 with
    | false => rw [ha] at h; cases h
    | true => rw [ha] at h; exact aft_take N ops _ c h

/-! ### What is left of a file -/
def kept (d : GDisk) (picks : List Int) (l : Dir) (i : Nat) : Int :=
  (d.Inodes.getD (l.getD i dGDirEntry).Inode.toNat dGInode).Synced + pk picks (i + 1) (((d.Inodes.getD (l.getD i dGDirEntry).Inode.toNat dGInode).Data.size : Int) - (d.Inodes.getD (l.getD i dGDirEntry).Inode.toNat dGInode).Synced + 1)
def crI (d : GDisk) (picks : List Int) (l : Dir) (i : Nat) : Nat → List GInode
  | 0 => []
  | k + 1 => ⟨ByteArray.extract (d.Inodes.getD (l.getD i dGDirEntry).Inode.toNat dGInode).Data 0 (kept d picks l i).toNat, kept d picks l i⟩ :: crI d picks l (i + 1) k
def crD (l : Dir) (i : Nat) : Nat → Dir
  | 0 => []
  | k + 1 => ⟨(l.getD i dGDirEntry).Name, (i : Int)⟩ :: crD l (i + 1) k
def crCount (d : GDisk) (picks : List Int) : Nat := (pk picks 0 ((d.Pending.length : Int) + 1)).toNat
def crDir (d : GDisk) (picks : List Int) : Dir := (aft (d.Inodes.length : Int) (d.Pending.take (crCount d picks)) d.Durable).1
def crF (d : GDisk) (picks : List Int) : GDisk := bif valid d then ⟨crI d picks (crDir d picks) 0 (crDir d picks).length, crD (crDir d picks) 0 (crDir d picks).length, [], -1⟩ else ⟨[], [], [], 0⟩

theorem inode_ok {d : GDisk} (hO : d.Inodes.all okI = true) {i : Int} (h0 : 0 ≤ i) (h1 : i < d.Inodes.length) : okI (d.Inodes.getD i.toNat dGInode) = true := by
  have hi : i.toNat < d.Inodes.length := by omega
  have hm : d.Inodes.getD i.toNat dGInode ∈ d.Inodes := by
    have := List.drop_subset i.toNat d.Inodes; rw [getD_drop (d := dGInode) hi] at this; exact this (by simp)
  exact List.all_eq_true.1 hO _ hm
theorem okI_spec {x : GInode} (h : okI x = true) : x.Data.size ≤ 1048576 ∧ 0 ≤ x.Synced ∧ x.Synced ≤ (x.Data.size : Int) := by simpa [okI] using h
theorem kept_in {d : GDisk} {picks : List Int} {l : Dir} {i : Nat} (h : okI (d.Inodes.getD (l.getD i dGDirEntry).Inode.toNat dGInode) = true) :
    (d.Inodes.getD (l.getD i dGDirEntry).Inode.toNat dGInode).Synced ≤ kept d picks l i ∧ kept d picks l i ≤ ((d.Inodes.getD (l.getD i dGDirEntry).Inode.toNat dGInode).Data.size : Int) := by
  obtain ⟨h1, h2, h3⟩ := okI_spec h
  have := pk_in picks (i + 1) (((d.Inodes.getD (l.getD i dGDirEntry).Inode.toNat dGInode).Data.size : Int) - (d.Inodes.getD (l.getD i dGDirEntry).Inode.toNat dGInode).Synced + 1) (by omega)
  unfold kept; omega

theorem getD_mem {l : Dir} {i : Nat} (h : i < l.length) : l.getD i dGDirEntry ∈ l := by
  have := List.drop_subset i l; rw [getD_drop (d := dGDirEntry) h] at this; exact this (by simp)
theorem getD_map_name {l : Dir} {i : Nat} (h : i < l.length) : (l.map (·.Name)).getD i bE = (l.getD i dGDirEntry).Name := by
  simp [List.getD, List.getElem?_eq_getElem h]

theorem crash_l3 (n : Nat) (d : GDisk) (r9 : Nat × Bool × (List (ByteArray × Int)) × (List Bool)) (r16 : Int) (r7 : List (ByteArray × Int)) (r8 : List Bool) (f : List (ByteArray × Int)) (t : List Bool) (l : Dir) (hR : Rd d.Inodes.length f t l) (hO : d.Inodes.all okI = true) (hl : l.length ≤ 1000) (hn : 1 ≤ n) (picks : List Int) (hp : picks.length ≤ 1000000000) (l11 : List Bool) :
    ∀ (k i m : Nat) (a1 : List GInode) (a2 : Dir), i + k = l.length → a1.length = i → a2.length = i → k < m →
    disk_Crash_l3 n d r9 r16 (l.map (·.Name)) r7 r8 f m a1 a2 (l.length : Int) (i : Int) picks l11 ((min (i + 1) picks.length : Nat) : Int) = some ⟨a1 ++ crI d picks l i k, a2 ++ crD l i k, [], r16⟩
  | k, i, 0, _, _, _, _, _, h => by omega
  | 0, i, m + 1, a1, a2, h, _, _, _ => by
    have : ¬ ((i : Int) < (l.length : Int)) := by omega
    simp only [disk_Crash_l3, disk_Crash_s4, this, decide_false, cond_false, crI, crD, List.append_nil]
  | k + 1, i, m + 1, a1, a2, h, h1, h2, h3 => by
    have hw := wr1 i (by omega)
    have hlt : (i : Int) < (l.length : Int) := by omega
    have hlt2 : (i : Int) < ((l.map (·.Name)).length : Int) := by rw [List.length_map]; omega
    have h0 : (0 : Int) ≤ (i : Int) := by omega
    have hi : i < l.length := by omega
    have hmem := getD_mem hi
    have hlk : lk (l.getD i dGDirEntry).Name f = some (l.getD i dGDirEntry).Inode := by rw [hR.lks]; exact (lkE_some hR.srt).2 hmem
    obtain ⟨g1, g2⟩ := hR.rng _ hmem
    have hok := inode_ok hO g1 g2
    obtain ⟨o1, o2, o3⟩ := okI_spec hok
    obtain ⟨q1, q2⟩ := kept_in (picks := picks) hok
    have hs1 := wr ((((d.Inodes.getD (l.getD i dGDirEntry).Inode.toNat dGInode).Data.size : Nat) : Int) - (d.Inodes.getD (l.getD i dGDirEntry).Inode.toNat dGInode).Synced) (by omega) (by omega)
    have hs2 := wr ((((d.Inodes.getD (l.getD i dGDirEntry).Inode.toNat dGInode).Data.size : Nat) : Int) - (d.Inodes.getD (l.getD i dGDirEntry).Inode.toNat dGInode).Synced + 1) (by omega) (by omega)
    have hc := c1_eq n ((((d.Inodes.getD (l.getD i dGDirEntry).Inode.toNat dGInode).Data.size : Nat) : Int) - (d.Inodes.getD (l.getD i dGDirEntry).Inode.toNat dGInode).Synced + 1) picks (i + 1) hn (by omega) (by omega) hp
    have hk : IntKind.wrap .i64 ((d.Inodes.getD (l.getD i dGDirEntry).Inode.toNat dGInode).Synced + pk picks (i + 1) ((((d.Inodes.getD (l.getD i dGDirEntry).Inode.toNat dGInode).Data.size : Nat) : Int) - (d.Inodes.getD (l.getD i dGDirEntry).Inode.toNat dGInode).Synced + 1)) = kept d picks l i := wr (kept d picks l i) (by omega) (by omega)
    have ih := crash_l3 n d r9 r16 r7 r8 f t l hR hO hl hn picks hp l11 k (i + 1) m (a1 ++ [⟨ByteArray.extract (d.Inodes.getD (l.getD i dGDirEntry).Inode.toNat dGInode).Data 0 (kept d picks l i).toNat, kept d picks l i⟩]) (a2 ++ [⟨(l.getD i dGDirEntry).Name, (i : Int)⟩]) (by omega) (by simp [h1]) (by simp [h2]) (by omega)
    simp only [disk_Crash_l3, hlt, hlt2, h0, decide_true, Bool.and_true, cond_true, toNat_c, hw, getD_map_name hi, hlk, Option.getD_some, g1, g2, hs1, hs2, hc, Option.bind_some, hk, show (0 : Int) ≤ 0 by omega, show (0 : Int) ≤ kept d picks l i by omega, q2,
      app_ok (n := a1.length) (b := 24) (by omega) (by omega), app_ok (n := a2.length) (b := 24) (by omega) (by omega), ih, crI, crD, List.append_assoc, List.singleton_append]

theorem crash_l0 (n : Nat) (d : GDisk) (N : Nat) (r9 : Nat × Bool × (List (ByteArray × Int)) × (List Bool)) (h9 : r9.1 = N) (r10 : Int × (List Int) × Int) (r7 : List (ByteArray × Int)) (r8 : List Bool) (hn : 2 ≤ n) (ops : List GDirOp) (ho : ops.length ≤ 1000000000) :
    ∀ (k i m : Nat) (f : List (ByteArray × Int)) (t : List Bool) (l : Dir), i + k = ops.length → Rd N f t l → (aft N (ops.drop i) l).2 = true → k < m →
    ∃ f' t', disk_Crash_l0 n d r9 r10 r7 r8 m ops (ops.length : Int) (i : Int) f t = disk_Crash_s2 n d r9 r10 r7 r8 f' t' ∧ Rd N f' t' (aft N (ops.drop i) l).1
  | k, i, 0, _, _, _, _, _, _, h => by omega
  | 0, i, m + 1, f, t, l, h, hR, _, _ => by
    have : ¬ ((i : Int) < (ops.length : Int)) := by omega
    have h2 : ops.drop i = [] := List.drop_eq_nil_of_le (by omega)
    rw [h2]
    exact ⟨f, t, by simp only [disk_Crash_l0, this, decide_false, cond_false], hR⟩
  | k + 1, i, m + 1, f, t, l, h, hR, ha, h2 => by
    have hw := wr1 i (by omega)
    have hlt : (i : Int) < (ops.length : Int) := by omega
    have h0 : (0 : Int) ≤ (i : Int) := by omega
    rw [getD_drop (d := dGDirOp) (show i < ops.length by omega)] at ha ⊢
    obtain ⟨x, hx⟩ : ∃ x, ops.getD i dGDirOp = x := ⟨_, rfl⟩
    rw [hx] at ha ⊢
    simp only [aft] at ha ⊢
    obtain ⟨q, rfl⟩ : ∃ q, n = q + 1 := ⟨n - 1, by omega⟩
    cases hap : (ap N l x).2 with
    | false => rw [hap] at ha; cases ha
    | true =>
      rw [hap] at ha
      simp only [cond_true] at ha ⊢
      simp only [disk_Crash_l0, disk_Crash_s1, hlt, h0, decide_true, Bool.and_true, cond_true, toNat_c, hw, hx, disk_operationOf, h9]
      by_cases k1 : x.Kind = 1
      · obtain ⟨f', t', e1, e2⟩ := create_eq (n := q + 1) hR x k1 hap (by omega)
        simp only [k1, show ((1 : Int) == 1) = true by rfl, cond_true, Option.bind_some, e1]
        exact crash_l0 (q + 1) d N r9 h9 r10 r7 r8 hn ops ho k (i + 1) m f' t' _ (by omega) e2 ha (by omega)
      · have e1 : (x.Kind == 1) = false := by simpa using k1
        by_cases k2 : x.Kind = 2
        · obtain ⟨f', t', e1, e2⟩ := rename_eq (n := q + 1) hR x k2 hap (by omega)
          simp only [k2, show ((2 : Int) == 1) = false by rfl, show ((2 : Int) == 2) = true by rfl, cond_true, cond_false, Option.bind_some, e1]
          exact crash_l0 (q + 1) d N r9 h9 r10 r7 r8 hn ops ho k (i + 1) m f' t' _ (by omega) e2 ha (by omega)
        · have e2 : (x.Kind == 2) = false := by simpa using k2
          by_cases k3 : x.Kind = 3
          · obtain ⟨f', t', e1, e2⟩ := remove_eq (n := q + 1) hR x k3 hap (by omega)
            simp only [k3, show ((3 : Int) == 1) = false by rfl, show ((3 : Int) == 2) = false by rfl, show ((3 : Int) == 3) = true by rfl, cond_true, cond_false, Option.bind_some, e1]
            exact crash_l0 (q + 1) d N r9 h9 r10 r7 r8 hn ops ho k (i + 1) m f' t' _ (by omega) e2 ha (by omega)
          · rw [ap_none k1 k2 k3] at hap; cases hap

theorem count_in (d : GDisk) (picks : List Int) : ((crCount d picks : Nat) : Int) = pk picks 0 ((d.Pending.length : Int) + 1) ∧ crCount d picks ≤ d.Pending.length := by
  have := pk_in picks 0 ((d.Pending.length : Int) + 1) (by omega)
  unfold crCount; omega
theorem crDir_rd {d : GDisk} (picks : List Int) (hv : valid d = true) (hD : d.Durable.length ≤ 1000000000) (n : Nat) (hn : d.Durable.length + 80 ≤ n) : ∃ f t, disk_durable n d = some (d.Inodes.length, true, f, t) ∧ Rd d.Inodes.length f t d.Durable := by
  obtain ⟨h1, h2, h3, h4, h5, h6⟩ := valid_il hv
  obtain ⟨f, t, e1, e2⟩ := durable_eq n d hn hD (by omega)
  rw [h5] at e1
  exact ⟨f, t, e1, e2 h5⟩
theorem crash_d (n B : Nat) (d : GDisk) (picks : List Int) (hb : Bd B d) (hn : B + 1200 ≤ n) (hp : picks.length ≤ 1000000000) : disk_Crash n d picks = some (crF d picks) := by
  obtain ⟨m, rfl⟩ : ∃ m, n = m + 1 := ⟨n - 1, by omega⟩
  have hB := hb.big; have hdl := hb.dl
  obtain ⟨r, h1, h2⟩ := current_eq m d (by omega) (by omega)
  simp only [disk_Crash, h1, Option.bind_some, crF]
  unfold curOut at h2
  cases hv : valid d with
  | false =>
    rw [if_neg (by simp [hv])] at h2
    cases r with
    | c0 a => rfl
    | c1 a b c => rfl
    | c2 a f t => exact absurd rfl (h2 a f t)
  | true =>
    rw [if_pos hv] at h2
    obtain ⟨f0, t0, rfl, _⟩ := h2
    obtain ⟨i1, i2, i3, i4, i5, i6⟩ := valid_il hv
    obtain ⟨f, t, e1, hR⟩ := crDir_rd picks hv (by omega) m (by omega)
    obtain ⟨c1, c2⟩ := count_in d picks
    have hpk := pk_in picks 0 ((d.Pending.length : Int) + 1) (by omega)
    have hc := c1_eq m ((d.Pending.length : Int) + 1) picks 0 (by omega) (by omega) (by omega) hp
    rw [Nat.zero_min, Nat.zero_add] at hc
    have hc' : disk_Crash_c1 m ((d.Pending.length : Int) + 1) picks 0 = some (pk picks 0 ((d.Pending.length : Int) + 1), picks, ((min 1 picks.length : Nat) : Int)) := hc
    have htk : (d.Pending.take (crCount d picks)).length = crCount d picks := by rw [List.length_take]; omega
    have haft := aft_take (d.Inodes.length : Int) d.Pending d.Durable (crCount d picks) i6
    simp only [e1, Option.bind_some, Bool.not_true, cond_false, cond_true, wr ((d.Pending.length : Int) + 1) (by omega) (by omega), hc', show (0 : Int) ≤ 0 by omega, hpk.1, show pk picks 0 ((d.Pending.length : Int) + 1) ≤ (d.Pending.length : Int) by omega, decide_true, Bool.and_true]
    show disk_Crash_l0 m d _ _ f0 t0 m (d.Pending.take (crCount d picks)) ((d.Pending.take (crCount d picks)).length : Int) ((0 : Nat) : Int) f t = _
    obtain ⟨f', t', e2, hR'⟩ := crash_l0 m d d.Inodes.length (d.Inodes.length, true, f, t) rfl (pk picks 0 ((d.Pending.length : Int) + 1), picks, ((min 1 picks.length : Nat) : Int)) f0 t0 (by omega) (d.Pending.take (crCount d picks)) (by omega) (crCount d picks) 0 m f t d.Durable (by omega) hR haft (by omega)
    rw [e2]
    rw [List.drop_zero] at hR'
    have hl : (crDir d picks).length ≤ 1000 := by have := hR'.bound; unfold crDir; omega
    obtain ⟨q, rfl⟩ : ∃ q, m = q + 1 := ⟨m - 1, by omega⟩
    simp only [disk_Crash_s2, disk_New, maps_Keys, Option.bind_some, sorted_rd hR' (q + 1) (by omega) (by have := hR'.bound; omega)]
    have := crash_l3 (q + 1) d (d.Inodes.length, true, f, t) (-1) f0 t0 f' t' (crDir d picks) hR' i4 hl (by omega) picks hp t' (crDir d picks).length 0 (q + 1) [] [] (by omega) rfl rfl (by omega)
    simp only [List.length_map]
    exact this

/-! ### A disk is the same as itself -/
theorem crI_len (d : GDisk) (picks : List Int) (l : Dir) : ∀ k i, (crI d picks l i k).length = k
  | 0, _ => rfl
  | k + 1, i => by simp [crI, crI_len d picks l k]
theorem crD_len (l : Dir) : ∀ k i, (crD l i k).length = k
  | 0, _ => rfl
  | k + 1, i => by simp [crD, crD_len l k]
end Go.Proofs.YtomalcfghdaghaaGreatDoor

/- Plain laws, 7: sizes; DiskReads. -/
set_option linter.unusedVariables false
set_option linter.unusedSimpArgs false
namespace Go.Proofs.YtomalcfghdaghaaGreatDoor
open Go Go.AM

theorem great_l4 (n : Nat) (d : GDisk) (h1 : d.Pending.length ≤ 1000000000) : ∀ (k i m : Nat) (s : Int), i + k = d.Pending.length → k < m → ∃ b, lookoutref22_Great_l4 n d m s (i : Int) = some b ∧ (b = false → ∀ x ∈ d.Pending.drop i, x.Name.size ≤ 100 ∧ x.To.size ≤ 100)
  | k, i, 0, _, _, h => by omega
  | 0, i, m + 1, s, h, _ => by
    have : ¬ ((i : Int) < (d.Pending.length : Int)) := by omega
    rw [List.drop_eq_nil_of_le (by omega)]
    exact ⟨decide (s > 60000), by simp only [lookoutref22_Great_l4, lookoutref22_Great_s5, this, decide_false, cond_false], fun _ x hx => by simp at hx⟩
  | k + 1, i, m + 1, s, h, h2 => by
    rw [getD_drop (d := dGDirOp) (show i < d.Pending.length by omega)]
    obtain ⟨b, e1, e2⟩ := great_l4 n d h1 k (i + 1) m s (by omega) (by omega)
    obtain ⟨x, hx⟩ : ∃ x, d.Pending.getD i dGDirOp = x := ⟨_, rfl⟩
    simp only [lookoutref22_Great_l4, show (i : Int) < (d.Pending.length : Int) by omega, show (0 : Int) ≤ (i : Int) by omega, decide_true, Bool.and_true, cond_true, toNat_c, wr1 i (by omega), hx, e1]
    by_cases c1 : (x.Name.size : Int) > 100
    · exact ⟨true, by simp only [c1, decide_true, cond_true], fun h => by cases h⟩
    · by_cases c2 : (x.To.size : Int) > 100
      · exact ⟨true, by simp only [c1, c2, decide_true, decide_false, cond_true, cond_false], fun h => by cases h⟩
      · refine ⟨b, by simp only [c1, c2, decide_false, cond_false], fun h y hy => ?_⟩
        rcases List.mem_cons.1 hy with rfl | hy
        · omega
        · exact e2 h y hy
theorem great_l2 (n : Nat) (d : GDisk) (h1 : d.Pending.length < n) (h1' : d.Durable.length ≤ 1000000000) (hn : d.Pending.length ≤ 1000000000 ∧ d.Durable.length ≤ 1000000000) : ∀ (k i m : Nat) (s : Int), i + k = d.Durable.length → k < m → ∃ b, lookoutref22_Great_l2 n d m s (i : Int) = some b ∧ (b = false → (∀ x ∈ d.Durable.drop i, x.Name.size ≤ 100) ∧ ∀ x ∈ d.Pending, x.Name.size ≤ 100 ∧ x.To.size ≤ 100)
  | k, i, 0, _, _, h => by omega
  | 0, i, m + 1, s, h, _ => by
    have : ¬ ((i : Int) < (d.Durable.length : Int)) := by omega
    rw [List.drop_eq_nil_of_le (by omega)]
    obtain ⟨b, e1, e2⟩ := great_l4 n d (by omega) d.Pending.length 0 n s (by omega) h1
    refine ⟨b, by simp only [lookoutref22_Great_l2, lookoutref22_Great_s3, this, decide_false, cond_false]; exact e1, fun h => ⟨fun x hx => by simp at hx, ?_⟩⟩
    simpa using e2 h
  | k + 1, i, m + 1, s, h, h2 => by
    rw [getD_drop (d := dGDirEntry) (show i < d.Durable.length by omega)]
    obtain ⟨b, e1, e2⟩ := great_l2 n d h1 h1' hn k (i + 1) m s (by omega) (by omega)
    obtain ⟨x, hx⟩ : ∃ x, d.Durable.getD i dGDirEntry = x := ⟨_, rfl⟩
    simp only [lookoutref22_Great_l2, show (i : Int) < (d.Durable.length : Int) by omega, show (0 : Int) ≤ (i : Int) by omega, decide_true, Bool.and_true, cond_true, toNat_c, wr1 i (by omega), hx, e1]
    by_cases c1 : (x.Name.size : Int) > 100
    · exact ⟨true, by simp only [c1, decide_true, cond_true], fun h => by cases h⟩
    · refine ⟨b, by simp only [c1, decide_false, cond_false], fun h => ⟨fun y hy => ?_, (e2 h).2⟩⟩
      rcases List.mem_cons.1 hy with rfl | hy
      · omega
      · exact (e2 h).1 y hy
theorem great_l0 (n : Nat) (d : GDisk) (h1 : d.Pending.length < n) (h1' : d.Durable.length < n) (hn : d.Pending.length ≤ 1000000000 ∧ d.Durable.length ≤ 1000000000) (hI : d.Inodes.length ≤ 1000000000) : ∀ (k i m : Nat) (s : Int), i + k = d.Inodes.length → k < m → ∃ b, lookoutref22_Great_l0 n d m s (i : Int) = some b ∧ (b = false → (∀ x ∈ d.Durable, x.Name.size ≤ 100) ∧ ∀ x ∈ d.Pending, x.Name.size ≤ 100 ∧ x.To.size ≤ 100)
  | k, i, 0, _, _, h => by omega
  | 0, i, m + 1, s, h, _ => by
    have : ¬ ((i : Int) < (d.Inodes.length : Int)) := by omega
    obtain ⟨b, e1, e2⟩ := great_l2 n d h1 (by omega) hn d.Durable.length 0 n s (by omega) h1'
    refine ⟨b, by simp only [lookoutref22_Great_l0, lookoutref22_Great_s1, this, decide_false, cond_false]; exact e1, fun h => ?_⟩
    simpa using e2 h
  | k + 1, i, m + 1, s, h, h2 => by
    obtain ⟨x, hx⟩ : ∃ x, d.Inodes.getD i dGInode = x := ⟨_, rfl⟩
    obtain ⟨b, e1, e2⟩ := great_l0 n d h1 h1' hn hI k (i + 1) m (IntKind.wrap .i64 (s + (x.Data.size : Int))) (by omega) (by omega)
    simp only [lookoutref22_Great_l0, show (i : Int) < (d.Inodes.length : Int) by omega, show (0 : Int) ≤ (i : Int) by omega, decide_true, Bool.and_true, cond_true, toNat_c, wr1 i (by omega), hx, e1]
    by_cases c1 : (x.Data.size : Int) > 20000
    · exact ⟨true, by simp only [c1, decide_true, cond_true], fun h => by cases h⟩
    · exact ⟨b, by simp only [c1, decide_false, cond_false], e2⟩
theorem great_all (n : Nat) (d : GDisk) (hn : 50 ≤ n) : ∃ b, lookoutref22_Great n d = some b ∧ (b = false → Bd 200 d ∧ d.Inodes.length ≤ 40 ∧ d.Durable.length ≤ 40 ∧ d.Pending.length ≤ 40) := by
  obtain ⟨m, rfl⟩ : ∃ m, n = m + 1 := ⟨n - 1, by omega⟩
  by_cases c1 : (d.Inodes.length : Int) > 40
  · exact ⟨true, by simp only [lookoutref22_Great, c1, decide_true, cond_true], fun h => by cases h⟩
  · by_cases c2 : (d.Durable.length : Int) > 40
    · exact ⟨true, by simp only [lookoutref22_Great, c1, c2, decide_true, decide_false, cond_true, cond_false], fun h => by cases h⟩
    · by_cases c3 : (d.Pending.length : Int) > 40
      · exact ⟨true, by simp only [lookoutref22_Great, c1, c2, c3, decide_true, decide_false, cond_true, cond_false], fun h => by cases h⟩
      · obtain ⟨b, e1, e2⟩ := great_l0 m d (by omega) (by omega) ⟨by omega, by omega⟩ (by omega) d.Inodes.length 0 m 0 (by omega) (by omega)
        refine ⟨b, by simp only [lookoutref22_Great, c1, c2, c3, decide_false, cond_false]; exact e1, fun h => ⟨⟨fun e he => ?_, fun x hx => ?_, by omega, by omega, by omega, by omega⟩, by omega, by omega, by omega⟩⟩
        · have := (e2 h).1 e he; omega
        · have := (e2 h).2 x hx; omega
theorem crF_len {d : GDisk} (picks : List Int) (hD : d.Durable.length ≤ 1000000000) : (crF d picks).Inodes.length ≤ 1000 ∧ (crF d picks).Durable.length ≤ 1000 ∧ (crF d picks).Pending.length = 0 := by
  unfold crF
  cases hv : valid d with
  | false => simp
  | true =>
    obtain ⟨i1, i2, i3, i4, i5, i6⟩ := valid_il hv
    obtain ⟨f, t, e1, hR⟩ := crDir_rd picks hv hD (d.Durable.length + 80) (by omega)
    have haft := aft_take (d.Inodes.length : Int) d.Pending d.Durable (crCount d picks) i6
    obtain ⟨f', t', _, hR'⟩ := crash_l0 2 d d.Inodes.length (d.Inodes.length, true, f, t) rfl (0, [], 0) [] [] (by omega) (d.Pending.take (crCount d picks)) (by rw [List.length_take]; omega) (d.Pending.take (crCount d picks)).length 0 ((d.Pending.take (crCount d picks)).length + 1) f t d.Durable (by omega) hR haft (by omega)
    rw [List.drop_zero] at hR'
    have hl : (crDir d picks).length ≤ 1000 := by have := hR'.bound; unfold crDir; omega
    simp only [cond_true, crI_len, crD_len, List.length_nil]
    exact ⟨hl, hl, trivial⟩
end Go.Proofs.YtomalcfghdaghaaGreatDoor

/- Plain laws, 8: the program's operations. -/
set_option linter.unusedVariables false
set_option linter.unusedSimpArgs false
namespace Go.Proofs.YtomalcfghdaghaaGreatDoor
open Go Go.AM

/-- What is over when power is needed. -/
def prf (d next : GDisk) : GDisk × Int := if d.Left = 0 then (d, 19) else (⟨next.Inodes, next.Durable, next.Pending, if d.Left > 0 then d.Left - 1 else d.Left⟩, 0)
def no (e : Int) : GDisk × Int := (⟨[], [], [], 0⟩, e)
structure Lw (d : GDisk) : Prop where
  lo : -9223372036854775808 ≤ d.Left
  hi : d.Left ≤ 9223372036854775807
theorem perform_eq (n : Nat) (d next : GDisk) (hn : 1 ≤ n) (hL : next.Left = d.Left) (hw : Lw d) : disk_perform n d next = some (prf d next) := by
  obtain ⟨m, rfl⟩ : ∃ m, n = m + 1 := ⟨n - 1, by omega⟩
  have h1 := hw.lo; have h2 := hw.hi
  simp only [disk_perform, disk_perform_s0, prf]
  by_cases c : d.Left = 0
  · simp [c]
  · have e : (d.Left == 0) = false := by simpa using c
    rw [e]; simp only [cond_false]
    rw [if_neg c]
    by_cases c2 : d.Left > 0
    · simp only [c2, decide_true, cond_true, if_true, wr (d.Left - 1) (by omega) (by omega)]
    · simp only [c2, decide_false, cond_false, if_false, hL]

def chg (d : GDisk) (i : Nat) (x : GInode) : GDisk := ⟨d.Inodes.set i x, d.Durable, d.Pending, d.Left⟩
theorem change_eq (n : Nat) (d : GDisk) (i : Int) (x : GInode) (hn : 2 ≤ n) (h0 : 0 ≤ i) (h1 : i < d.Inodes.length) (hl : d.Inodes.length ≤ 1000) : disk_change n d i x = some (chg d i.toNat x) := by
  obtain ⟨m, rfl⟩ : ∃ m, n = m + 2 := ⟨n - 2, by omega⟩
  have hpos : 0 < d.Inodes.length := by omega
  have hb : i.toNat < d.Inodes.length := by omega
  have hck : (true && (decide ((0 + d.Inodes.length) * 24 ≤ 140737488355328) && decide (0 + d.Inodes.length ≤ 9223372036854775807))) = true := by
    simp only [Bool.true_and, Bool.and_eq_true, decide_eq_true_eq]; omega
  have hble : Nat.ble d.Inodes.length (d.Inodes.set i.toNat x).length = true := by rw [List.length_set]; exact Nat.ble_eq_true_of_le (Nat.le_refl _)
  have htk : (d.Inodes.set i.toNat x).take d.Inodes.length = d.Inodes.set i.toNat x := List.take_of_length_le (by rw [List.length_set]; exact Nat.le_refl _)
  simp only [disk_change, slices_Clone, hpos, hck, decide_true, cond_true, Option.bind_some, h0, h1, Bool.and_true, blt_of hb, hble, htk, chg]
theorem pend_eq (n : Nat) (d : GDisk) (x : GDirOp) (hn : 2 ≤ n) (hl : d.Pending.length ≤ 1000) : disk_pend n d x = some ⟨d.Inodes, d.Durable, d.Pending ++ [x], d.Left⟩ := by
  obtain ⟨m, rfl⟩ : ∃ m, n = m + 2 := ⟨n - 2, by omega⟩
  simp only [disk_pend, slices_Clip, show (0 : Int) ≤ 0 by omega, show (0 : Int) ≤ (d.Pending.length : Int) by omega, show ((d.Pending.length : Int) ≤ (d.Pending.length : Int)) by omega, decide_true, Bool.and_true, cond_true, Option.bind_some, app_ok (n := d.Pending.length) (b := 48) (by omega) (by omega)]

/-! ### The operations -/
def crtF (d : GDisk) (name : ByteArray) : GDisk × Int :=
  if valid d = false then no 1 else if isNm name = false then no 5 else if (lkE name (cur d).1).isNone = false then no 6 else if d.Inodes.length ≥ 1000 then no 18 else if d.Pending.length ≥ 1000 then no 18
  else prf d ⟨d.Inodes ++ [⟨bE, 0⟩], d.Durable, d.Pending ++ [⟨1, name, bE, (d.Inodes.length : Int)⟩], d.Left⟩
def ino (d : GDisk) (name : ByteArray) : Nat := (fnd d name).1.toNat
def file (d : GDisk) (name : ByteArray) : GInode := d.Inodes.getD (ino d name) dGInode
def appF (d : GDisk) (name data : ByteArray) : GDisk × Int :=
  if (fnd d name).2 ≠ 0 then no (fnd d name).2 else if (data.size : Int) > 1048576 - ((file d name).Data.size : Int) then no 18 else prf d (chg d (ino d name) ⟨(file d name).Data ++ data, (file d name).Synced⟩)
def synF (d : GDisk) (name : ByteArray) : GDisk × Int :=
  if (fnd d name).2 ≠ 0 then no (fnd d name).2 else prf d (chg d (ino d name) ⟨(file d name).Data, ((file d name).Data.size : Int)⟩)
def renF (d : GDisk) (name to : ByteArray) : GDisk × Int :=
  if (fnd d name).2 ≠ 0 then no (fnd d name).2 else if isNm to = false then no 5 else if to = name then no 6 else if d.Pending.length ≥ 1000 then no 18 else prf d ⟨d.Inodes, d.Durable, d.Pending ++ [⟨2, name, to, 0⟩], d.Left⟩
def remF (d : GDisk) (name : ByteArray) : GDisk × Int :=
  if (fnd d name).2 ≠ 0 then no (fnd d name).2 else if d.Pending.length ≥ 1000 then no 18 else prf d ⟨d.Inodes, d.Durable, d.Pending ++ [⟨3, name, bE, 0⟩], d.Left⟩
/-- The inodes that have an entry, from number i on; how many have one ahead of number i. -/
def acI (d : GDisk) (l : Dir) (i : Nat) : Nat → List GInode
  | 0 => []
  | k + 1 => bif usedE l (i : Int) then d.Inodes.getD i dGInode :: acI d l (i + 1) k else acI d l (i + 1) k
def rnk (l : Dir) : Nat → Nat
  | 0 => 0
  | i + 1 => bif usedE l (i : Int) then rnk l i + 1 else rnk l i
def rnkE (l : Dir) (e : GDirEntry) : GDirEntry := ⟨e.Name, (rnk l e.Inode.toNat : Int)⟩
def sdF (d : GDisk) : GDisk × Int :=
  if valid d = false then no 1 else prf d ⟨acI d (cur d).1 0 d.Inodes.length, (cur d).1.map (rnkE (cur d).1), [], d.Left⟩

theorem create_f (n B : Nat) (d : GDisk) (name : ByteArray) (hb : Bd B d) (hw : Lw d) (hn : B + 1200 ≤ n) : disk_Create n d name = some (crtF d name) := by
  obtain ⟨m, rfl⟩ : ∃ m, n = m + 1 := ⟨n - 1, by omega⟩
  have hB := hb.big; have hdl := hb.dl
  obtain ⟨r, h1, h2⟩ := current_eq m d (by omega) (by omega)
  simp only [disk_Create, h1, Option.bind_some, crtF]
  unfold curOut at h2
  cases hv : valid d with
  | false =>
    rw [if_neg (by simp [hv])] at h2
    cases r with
    | c0 a => rfl
    | c1 a b c => rfl
    | c2 a f t => exact absurd rfl (h2 a f t)
  | true =>
    rw [if_pos hv] at h2
    obtain ⟨f, t, rfl, hR⟩ := h2
    obtain ⟨i1, i2, i3, i4, i5, i6⟩ := valid_il hv
    simp only [isName_eq m name (by omega), Option.bind_some, lk_is hR, Bool.true_eq_false, if_false]
    cases hnm : isNm name with
    | false => rfl
    | true =>
      cases hnn : (lkE name (cur d).1).isNone with
      | false => rfl
      | true =>
        simp only [Bool.not_true, cond_false, Bool.true_eq_false, if_false]
        by_cases c1 : d.Inodes.length ≥ 1000
        · rw [if_pos c1]
          simp only [show (d.Inodes.length : Int) ≥ 1000 by omega, decide_true, cond_true]; rfl
        · rw [if_neg c1]
          by_cases c2 : d.Pending.length ≥ 1000
          · rw [if_pos c2]
            simp only [show ¬ (d.Inodes.length : Int) ≥ 1000 by omega, show (d.Pending.length : Int) ≥ 1000 by omega, decide_true, decide_false, cond_true, cond_false]; rfl
          · rw [if_neg c2]
            obtain ⟨q, rfl⟩ : ∃ q, m = q + 1 := ⟨m - 1, by omega⟩
            simp only [show ¬ (d.Inodes.length : Int) ≥ 1000 by omega, show ¬ (d.Pending.length : Int) ≥ 1000 by omega, decide_true, decide_false, cond_true, cond_false, pend_eq (q + 1) d _ (by omega) (show d.Pending.length ≤ 1000 by omega), Option.bind_some,
              slices_Clip_97, show (0 : Int) ≤ 0 by omega, show (0 : Int) ≤ (d.Inodes.length : Int) by omega, show ((d.Inodes.length : Int) ≤ (d.Inodes.length : Int)) by omega, Bool.and_true, app_ok (n := d.Inodes.length) (b := 24) (by omega) (by omega)]
            rw [perform_eq (q + 1) d _ (by omega) (by rfl) hw]; rfl

theorem fnd_e (d : GDisk) (name : ByteArray) : (fnd d name).2 = 0 ∨ (fnd d name).2 = 1 ∨ (fnd d name).2 = 7 := by
  unfold fnd
  cases valid d with
  | false => simp
  | true => cases lkE name (cur d).1 <;> simp
theorem file_ok {d : GDisk} {name : ByteArray} (hD : d.Durable.length ≤ 1000000000) (h : (fnd d name).2 = 0) : okI (file d name) = true ∧ ino d name < d.Inodes.length ∧ 0 ≤ (fnd d name).1 ∧ (fnd d name).1 < d.Inodes.length ∧ d.Inodes.length ≤ 1000 ∧ d.Pending.length ≤ 1000 := by
  obtain ⟨hv, h1, h2⟩ := fnd_in hD h
  obtain ⟨i1, i2, i3, i4, i5, i6⟩ := valid_il hv
  exact ⟨inode_ok i4 h1 h2, by unfold ino; omega, h1, h2, i1, i2⟩

theorem append_f (n B : Nat) (d : GDisk) (name data : ByteArray) (hb : Bd B d) (hw : Lw d) (hn : B + 1200 ≤ n) (hs : data.size ≤ 1000000000) : disk_Append n d name data = some (appF d name data) := by
  obtain ⟨m, rfl⟩ : ∃ m, n = m + 1 := ⟨n - 1, by omega⟩
  have hB := hb.big; have hdl := hb.dl
  simp only [disk_Append, find_d m B d name hb (by omega), Option.bind_some, appF]
  by_cases he : (fnd d name).2 = 0
  · obtain ⟨o1, o2, o3, o4, o5, o6⟩ := file_ok (by omega) he
    obtain ⟨p1, p2, p3⟩ := okI_spec o1
    have hx : d.Inodes.getD (fnd d name).1.toNat dGInode = file d name := rfl
    simp only [he, show ((0 : Int) != 0) = false by rfl, cond_false, o3, o4, decide_true, Bool.and_true, cond_true, hx, wr (1048576 - ((file d name).Data.size : Int)) (by omega) (by omega), ne_eq, not_true_eq_false, if_false]
    by_cases c : (data.size : Int) > 1048576 - ((file d name).Data.size : Int)
    · rw [if_pos c]; simp only [c, decide_true, cond_true]; rfl
    · rw [if_neg c]
      simp only [c, decide_false, cond_false, show (file d name).Data.size + data.size ≤ 9223372036854775807 by omega, decide_true, cond_true, change_eq m d (fnd d name).1 _ (by omega) o3 o4 o5, Option.bind_some]
      rw [perform_eq m d _ (by omega) (by rfl) hw]; rfl
  · have e : ((fnd d name).2 != 0) = true := by simpa [bne] using he
    rw [if_pos he]
    simp only [e, cond_true]; rfl
theorem sync_f (n B : Nat) (d : GDisk) (name : ByteArray) (hb : Bd B d) (hw : Lw d) (hn : B + 1200 ≤ n) : disk_Sync n d name = some (synF d name) := by
  obtain ⟨m, rfl⟩ : ∃ m, n = m + 1 := ⟨n - 1, by omega⟩
  have hB := hb.big; have hdl := hb.dl
  simp only [disk_Sync, find_d m B d name hb (by omega), Option.bind_some, synF]
  by_cases he : (fnd d name).2 = 0
  · obtain ⟨o1, o2, o3, o4, o5, o6⟩ := file_ok (by omega) he
    have hx : d.Inodes.getD (fnd d name).1.toNat dGInode = file d name := rfl
    simp only [he, show ((0 : Int) != 0) = false by rfl, cond_false, o3, o4, decide_true, Bool.and_true, cond_true, hx, ne_eq, not_true_eq_false, if_false, change_eq m d (fnd d name).1 _ (by omega) o3 o4 o5, Option.bind_some]
    rw [perform_eq m d _ (by omega) (by rfl) hw]; rfl
  · have e : ((fnd d name).2 != 0) = true := by simpa [bne] using he
    rw [if_pos he]
    simp only [e, cond_true]; rfl
theorem rename_f (n B : Nat) (d : GDisk) (name to : ByteArray) (hb : Bd B d) (hw : Lw d) (hn : B + 1200 ≤ n) : disk_Rename n d name to = some (renF d name to) := by
  obtain ⟨m, rfl⟩ : ∃ m, n = m + 1 := ⟨n - 1, by omega⟩
  have hB := hb.big; have hdl := hb.dl
  simp only [disk_Rename, find_d m B d name hb (by omega), Option.bind_some, renF]
  by_cases he : (fnd d name).2 = 0
  · obtain ⟨o1, o2, o3, o4, o5, o6⟩ := file_ok (by omega) he
    simp only [he, show ((0 : Int) != 0) = false by rfl, cond_false, ne_eq, not_true_eq_false, if_false, isName_eq m to (by omega), Option.bind_some, sEq_eq]
    cases hnm : isNm to with
    | false => rfl
    | true =>
      simp only [Bool.not_true, cond_false, Bool.true_eq_false, if_false]
      by_cases ht : to = name
      · rw [if_pos ht]; simp only [ht, decide_true, cond_true]; rfl
      · rw [if_neg ht]
        simp only [ht, decide_false, cond_false]
        by_cases c : d.Pending.length ≥ 1000
        · rw [if_pos c]; simp only [show (d.Pending.length : Int) ≥ 1000 by omega, decide_true, cond_true]; rfl
        · rw [if_neg c]
          simp only [show ¬ (d.Pending.length : Int) ≥ 1000 by omega, decide_false, cond_false, pend_eq m d _ (by omega) o6, Option.bind_some]
          rw [perform_eq m d _ (by omega) (by rfl) hw]; rfl
  · have e : ((fnd d name).2 != 0) = true := by simpa [bne] using he
    rw [if_pos he]
    simp only [e, cond_true]; rfl
theorem remove_f (n B : Nat) (d : GDisk) (name : ByteArray) (hb : Bd B d) (hw : Lw d) (hn : B + 1200 ≤ n) : disk_Remove n d name = some (remF d name) := by
  obtain ⟨m, rfl⟩ : ∃ m, n = m + 1 := ⟨n - 1, by omega⟩
  have hB := hb.big; have hdl := hb.dl
  simp only [disk_Remove, find_d m B d name hb (by omega), Option.bind_some, remF]
  by_cases he : (fnd d name).2 = 0
  · obtain ⟨o1, o2, o3, o4, o5, o6⟩ := file_ok (by omega) he
    simp only [he, show ((0 : Int) != 0) = false by rfl, cond_false, ne_eq, not_true_eq_false, if_false]
    by_cases c : d.Pending.length ≥ 1000
    · rw [if_pos c]; simp only [show (d.Pending.length : Int) ≥ 1000 by omega, decide_true, cond_true]; rfl
    · rw [if_neg c]
      simp only [show ¬ (d.Pending.length : Int) ≥ 1000 by omega, decide_false, cond_false, pend_eq m d _ (by omega) o6, Option.bind_some]
      rw [perform_eq m d _ (by omega) (by rfl) hw]; rfl
  · have e : ((fnd d name).2 != 0) = true := by simpa [bne] using he
    rw [if_pos he]
    simp only [e, cond_true]; rfl
/-! ### SyncDir -/
theorem rnk_le (l : Dir) : ∀ i, rnk l i ≤ i
  | 0 => Nat.le_refl _
  | i + 1 => by have := rnk_le l i; simp only [rnk]; cases usedE l (i : Int) <;> simp <;> omega
theorem acI_len (d : GDisk) (l : Dir) : ∀ k i, (acI d l i k).length + rnk l i = rnk l (i + k)
  | 0, i => by simp [acI]
  | k + 1, i => by
    have ih := acI_len d l k (i + 1)
    have e : i + (k + 1) = i + 1 + k := by omega
    rw [e, ← ih]
    simp only [acI, rnk]
    cases usedE l (i : Int) <;> simp <;> omega
theorem syncdir_l0 (n : Nat) (d : GDisk) (l : Dir) (f : List (ByteArray × Int)) (t : List Bool) (hR : Rd d.Inodes.length f t l) (hI : d.Inodes.length ≤ 1000) : ∀ (k i m : Nat) (acc : List GInode) (p : List Int), i + k = d.Inodes.length → acc.length = rnk l i → p.length = d.Inodes.length → (∀ j, j < i → usedE l (j : Int) = true → p.getD j 0 = (rnk l j : Int)) → k < m →
    ∃ p', disk_SyncDir_l0 n d d.Inodes.length f t m acc (d.Inodes.length : Int) (i : Int) p = disk_SyncDir_s2 n d d.Inodes.length f t p' (acc ++ acI d l i k) ∧ p'.length = d.Inodes.length ∧ ∀ j, j < d.Inodes.length → usedE l (j : Int) = true → p'.getD j 0 = (rnk l j : Int)
  | k, i, 0, _, _, _, _, _, _, h => by omega
  | 0, i, m + 1, acc, p, h, h1, h2, h3, _ => by
    have : ¬ ((i : Int) < (d.Inodes.length : Int)) := by omega
    exact ⟨p, by simp only [disk_SyncDir_l0, this, decide_false, cond_false, acI, List.append_nil], h2, fun j hj => h3 j (by omega)⟩
  | k + 1, i, m + 1, acc, p, h, h1, h2, h3, h4 => by
    have hlt : (i : Int) < (d.Inodes.length : Int) := by omega
    have h0 : (0 : Int) ≤ (i : Int) := by omega
    have hbt : i < t.length := by rw [hR.len]; omega
    have hbp : i < p.length := by omega
    have hrk := rnk_le l i
    simp only [disk_SyncDir_l0, disk_SyncDir_s1, hlt, h0, decide_true, Bool.and_true, cond_true, toNat_c, blt_of hbt, blt_of hbp, hR.tkn i (by omega), wr1 i (by omega), acI, app_ok (n := acc.length) (b := 24) (by omega) (by omega)]
    cases hu : usedE l (i : Int) with
    | false =>
      simp only [cond_false]
      exact syncdir_l0 n d l f t hR hI k (i + 1) m acc p (by omega) (by simp only [rnk, hu, cond_false]; exact h1) h2 (fun j hj hju => by
        by_cases e : j = i
        · subst e; rw [hu] at hju; cases hju
        · exact h3 j (by omega) hju) (by omega)
    | true =>
      simp only [cond_true]
      obtain ⟨p', e1, e2, e3⟩ := syncdir_l0 n d l f t hR hI k (i + 1) m (acc ++ [d.Inodes.getD i dGInode]) (p.set i (acc.length : Int)) (by omega) (by simp only [rnk, hu, cond_true, List.length_append, List.length_singleton]; omega) (by simp [h2]) (fun j hj hju => by
        by_cases e : j = i
        · subst e; simp only [List.getD]; rw [List.getElem?_set_self hbp]; simp only [Option.getD_some, h1]
        · simp only [List.getD]; rw [List.getElem?_set_ne (Ne.symm e)]; exact h3 j (by omega) hju) (by omega)
      exact ⟨p', by rw [e1]; simp only [List.append_assoc, List.singleton_append], e2, e3⟩
theorem syncdir_l3 (n : Nat) (d : GDisk) (l : Dir) (f : List (ByteArray × Int)) (t : List Bool) (hR : Rd d.Inodes.length f t l) (hI : d.Inodes.length ≤ 1000) (r6 : Nat) (p : List Int) (hp : p.length = d.Inodes.length) (hpp : ∀ j, j < d.Inodes.length → usedE l (j : Int) = true → p.getD j 0 = (rnk l j : Int)) (a1 : List GInode) :
    ∀ (k i m : Nat) (a2 : Dir), i + k = l.length → a2.length = i → k < m → disk_SyncDir_l3 n d r6 (l.map (·.Name)) f t p m a1 a2 (l.length : Int) (i : Int) = disk_SyncDir_s4 n d f t p a1 (a2 ++ (l.drop i).map (rnkE l))
  | k, i, 0, _, _, _, h => by omega
  | 0, i, m + 1, a2, h, _, _ => by
    have : ¬ ((i : Int) < (l.length : Int)) := by omega
    rw [List.drop_eq_nil_of_le (by omega)]
    simp only [disk_SyncDir_l3, this, decide_false, cond_false, List.map_nil, List.append_nil]
  | k + 1, i, m + 1, a2, h, h1, h2 => by
    have hl := hR.bound
    have hlt : (i : Int) < (l.length : Int) := by omega
    have hlt2 : (i : Int) < ((l.map (·.Name)).length : Int) := by rw [List.length_map]; omega
    have h0 : (0 : Int) ≤ (i : Int) := by omega
    have hi : i < l.length := by omega
    have hmem := getD_mem hi
    have hlk : lk (l.getD i dGDirEntry).Name f = some (l.getD i dGDirEntry).Inode := by rw [hR.lks]; exact (lkE_some hR.srt).2 hmem
    obtain ⟨g1, g2⟩ := hR.rng _ hmem
    have hbp : (l.getD i dGDirEntry).Inode.toNat < p.length := by omega
    have hpv := hpp (l.getD i dGDirEntry).Inode.toNat (by omega) (usedE_iff.2 ⟨_, hmem, by omega⟩)
    have ih := syncdir_l3 n d l f t hR hI r6 p hp hpp a1 k (i + 1) m (a2 ++ [⟨(l.getD i dGDirEntry).Name, p.getD (l.getD i dGDirEntry).Inode.toNat 0⟩]) (by omega) (by simp [h1]) (by omega)
    rw [hpv] at ih
    rw [getD_drop (d := dGDirEntry) hi]
    simp only [disk_SyncDir_l3, hlt, hlt2, h0, decide_true, Bool.and_true, cond_true, toNat_c, getD_map_name hi, hlk, Option.getD_some, g1, g2, blt_of hbp, app_ok (n := a2.length) (b := 24) (by omega) (by omega), wr1 i (by omega), hpv, ih, List.map_cons, List.append_assoc, List.singleton_append]
    rfl
theorem syncdir_f (n B : Nat) (d : GDisk) (hb : Bd B d) (hw : Lw d) (hn : B + 1200 ≤ n) : disk_SyncDir n d = some (sdF d) := by
  obtain ⟨m, rfl⟩ : ∃ m, n = m + 1 := ⟨n - 1, by omega⟩
  have hB := hb.big; have hdl := hb.dl
  obtain ⟨r, h1, h2⟩ := current_eq m d (by omega) (by omega)
  simp only [disk_SyncDir, h1, Option.bind_some, sdF]
  unfold curOut at h2
  cases hv : valid d with
  | false =>
    rw [if_neg (by simp [hv])] at h2
    cases r with
    | c0 a => rfl
    | c1 a b c => rfl
    | c2 a f t => exact absurd rfl (h2 a f t)
  | true =>
    rw [if_pos hv] at h2
    obtain ⟨f, t, rfl, hR⟩ := h2
    obtain ⟨i1, i2, i3, i4, i5, i6⟩ := valid_il hv
    have hl := hR.bound
    simp only [Bool.true_eq_false, if_false, show (0 : Int) ≤ (d.Inodes.length : Int) by omega, show (d.Inodes.length : Int) * 8 ≤ 140737488355328 by omega, show (d.Inodes.length : Int) ≤ 9223372036854775807 by omega, decide_true, Bool.and_true, cond_true]
    obtain ⟨p, e1, e2, e3⟩ := syncdir_l0 m d (cur d).1 f t hR i1 d.Inodes.length 0 m [] (List.replicate d.Inodes.length 0) (by omega) rfl (by simp) (fun j hj => by omega) (by omega)
    refine Eq.trans e1 ?_
    obtain ⟨q, rfl⟩ : ∃ q, m = q + 1 := ⟨m - 1, by omega⟩
    simp only [disk_SyncDir_s2, maps_Keys, Option.bind_some, sorted_rd hR (q + 1) (by omega) (by omega), List.length_map, List.nil_append]
    have := syncdir_l3 (q + 1) d (cur d).1 f t hR i1 d.Inodes.length p e2 e3 (acI d (cur d).1 0 d.Inodes.length) (cur d).1.length 0 (q + 1) [] (by omega) rfl (by omega)
    refine Eq.trans this ?_
    simp only [disk_SyncDir_s4, List.drop_zero, List.nil_append]
    rw [perform_eq (q + 1) d _ (by omega) (by rfl) hw]; rfl

end Go.Proofs.YtomalcfghdaghaaGreatDoor

/- Plain laws, 9: what the operations leave of sizes and power; DiskPower. -/
set_option linter.unusedVariables false
set_option linter.unusedSimpArgs false
namespace Go.Proofs.YtomalcfghdaghaaGreatDoor
open Go Go.AM

/-- Sizes that an operation lets grow by one. -/
structure Bg (c : Nat) (d : GDisk) : Prop where
  dn : ∀ e ∈ d.Durable, e.Name.size ≤ 200
  pn : ∀ x ∈ d.Pending, x.Name.size + x.To.size ≤ 200
  dl : d.Durable.length + d.Pending.length ≤ c
  il : d.Inodes.length ≤ c
theorem Bg.bd {c : Nat} {d : GDisk} (h : Bg c d) (hc : c ≤ 200) : Bd 200 d := ⟨h.dn, h.pn, by have := h.dl; omega, by have := h.dl; omega, by have := h.il; omega, by omega⟩
theorem Bg.mono {c c' : Nat} {d : GDisk} (h : Bg c d) (hc : c ≤ c') : Bg c' d := ⟨h.dn, h.pn, by have := h.dl; omega, by have := h.il; omega⟩

theorem aft_len (N : Int) : ∀ (ops : List GDirOp) (l : Dir), (aft N ops l).1.length ≤ l.length + ops.length
  | [], l => by simp [aft]
  | x :: ops, l => by
    have h1 := ap_len N l x
    have ih := aft_len N ops (ap N l x).1
    simp only [aft, List.length_cons]
    cases (ap N l x).2 <;> simp only [cond_true, cond_false] <;> omega
theorem isNm_size {s : ByteArray} (h : isNm s = true) : s.size ≤ 60 := by
  simp only [isNm, Bool.and_eq_true, decide_eq_true_eq] at h; exact h.1.2

/-- What an operation may leave. -/
structure Out (c : Nat) (d : GDisk) (r : GDisk × Int) : Prop where
  ok : r.2 = 0 → d.Left ≠ 0 ∧ r.1.Left = (if d.Left > 0 then d.Left - 1 else d.Left) ∧ Bg (c + 1) r.1
  lost : r.2 = 19 → d.Left = 0 ∧ r.1 = d
  err : r.2 ≠ 0 → r.2 ≠ 19 → r.1 = ⟨[], [], [], 0⟩
theorem out_prf {c : Nat} {d next : GDisk} (h : Bg (c + 1) next) : Out c d (prf d next) := by
  unfold prf
  by_cases h0 : d.Left = 0
  · rw [if_pos h0]; exact ⟨fun e => (by cases e), fun _ => ⟨h0, rfl⟩, fun _ h => absurd rfl h⟩
  · rw [if_neg h0]; exact ⟨fun _ => ⟨h0, rfl, ⟨h.dn, h.pn, h.dl, h.il⟩⟩, fun e => (by cases e), fun h => absurd rfl h⟩
theorem out_no {c : Nat} {d : GDisk} {e : Int} (h0 : e ≠ 0) (h1 : e ≠ 19) : Out c d (no e) := ⟨fun h => absurd h h0, fun h => absurd h h1, fun _ _ => rfl⟩
theorem out_fnd {c : Nat} {d : GDisk} {name : ByteArray} (h : (fnd d name).2 ≠ 0) : Out c d (no (fnd d name).2) := by
  refine out_no h ?_
  rcases fnd_e d name with e | e | e <;> rw [e] <;> omega
theorem bg_chg {c : Nat} {d : GDisk} {i : Nat} {x : GInode} (h : Bg c d) : Bg (c + 1) (chg d i x) := ⟨h.dn, h.pn, by have := h.dl; simp only [chg]; omega, by have := h.il; simp only [chg, List.length_set]; omega⟩
theorem bg_pend {c : Nat} {d : GDisk} {x : GDirOp} {I : List GInode} (h : Bg c d) (hx : x.Name.size + x.To.size ≤ 200) (hI : I.length ≤ c + 1) : Bg (c + 1) ⟨I, d.Durable, d.Pending ++ [x], d.Left⟩ := by
  refine ⟨h.dn, fun y hy => ?_, ?_, hI⟩
  · rcases List.mem_append.1 hy with hy | hy
    · exact h.pn y hy
    · have := List.mem_singleton.1 hy; rw [this]; exact hx
  · have := h.dl; simp only [List.length_append, List.length_singleton]; omega

end Go.Proofs.YtomalcfghdaghaaGreatDoor

/- Plain laws, 10: the reference's operations; DiskChanges, DiskRun. -/
set_option linter.unusedVariables false
set_option linter.unusedSimpArgs false
namespace Go.Proofs.YtomalcfghdaghaaGreatDoor
open Go Go.AM

/-! ### SyncDir -/
theorem srt_inj {l : Dir} (h : Srt l) {a b : Nat} (ha : a < l.length) (hb : b < l.length) (e : l.getD a dGDirEntry = l.getD b dGDirEntry) : a = b := by
  have hg : ∀ {c : Nat} (hc : c < l.length), l.getD c dGDirEntry = l[c] := fun hc => by simp [List.getD, List.getElem?_eq_getElem hc]
  rw [hg ha, hg hb] at e
  rcases Nat.lt_trichotomy a b with h1 | h1 | h1
  · have := List.pairwise_iff_getElem.1 h a b ha hb h1; rw [e] at this; exact absurd this (ky_lt_irrefl _)
  · exact h1
  · have := List.pairwise_iff_getElem.1 h b a hb ha h1; rw [e] at this; exact absurd this (ky_lt_irrefl _)
end Go.Proofs.YtomalcfghdaghaaGreatDoor

/- Plain laws, 11: what is valid stays valid; DiskValid, DiskReplaces. -/
set_option linter.unusedVariables false
set_option linter.unusedSimpArgs false
namespace Go.Proofs.YtomalcfghdaghaaGreatDoor
open Go Go.AM

theorem mem_take {D : Dir} {i : Nat} {e : GDirEntry} (h : e ∈ D.take i) : ∃ p, p < i ∧ p < D.length ∧ D.getD p dGDirEntry = e := by
  obtain ⟨p, hp, he⟩ := List.getElem_of_mem h
  have hp' : p < i ∧ p < D.length := by rw [List.length_take] at hp; omega
  refine ⟨p, hp'.1, hp'.2, ?_⟩
  rw [List.getElem_take] at he
  simp [List.getD, List.getElem?_eq_getElem hp'.2, he]
theorem srt_get {D : Dir} (h : Srt D) {a b : Nat} (hab : a < b) (hb : b < D.length) : ky (D.getD a dGDirEntry).Name < ky (D.getD b dGDirEntry).Name := by
  have := List.pairwise_iff_getElem.1 h a b (by omega) hb hab
  simpa [List.getD, List.getElem?_eq_getElem hb, List.getElem?_eq_getElem (show a < D.length by omega)] using this
theorem durB_of {N : Nat} {D : Dir} (hn : ∀ e ∈ D, isNm e.Name = true) (hs : Srt D) (hr : ∀ e ∈ D, 0 ≤ e.Inode ∧ e.Inode < N) (hi : ∀ p q, p < q → q < D.length → (D.getD p dGDirEntry).Inode ≠ (D.getD q dGDirEntry).Inode) : ∀ (k i : Nat), i + k = D.length → durB N D i k = true
  | 0, i, _ => rfl
  | k + 1, i, h => by
    have hm := getD_mem (show i < D.length by omega)
    have ih := durB_of hn hs hr hi k (i + 1) (by omega)
    have hu : usedE (D.take i) (D.getD i dGDirEntry).Inode = false := by
      cases hu : usedE (D.take i) (D.getD i dGDirEntry).Inode with
      | false => rfl
      | true =>
        obtain ⟨e, he, hh⟩ := usedE_iff.1 hu
        obtain ⟨p, p1, p2, rfl⟩ := mem_take he
        exact absurd hh (hi p i p1 (by omega))
    obtain ⟨r1, r2⟩ := hr _ hm
    have hlast : (decide (i = 0) || decide (ky (D.getD (i - 1) dGDirEntry).Name < ky (D.getD i dGDirEntry).Name)) = true := by
      by_cases h0 : i = 0
      · simp [h0]
      · have := srt_get hs (show i - 1 < i by omega) (show i < D.length by omega)
        rw [decide_eq_true this, Bool.or_true]
    simp only [durB, okD, ih, hn _ hm, hlast, r1, r2, hu, decide_true, Bool.and_true, Bool.not_false]
theorem durA_of {d : GDisk} (hn : ∀ e ∈ d.Durable, isNm e.Name = true) (hs : Srt d.Durable) (hr : ∀ e ∈ d.Durable, 0 ≤ e.Inode ∧ e.Inode < d.Inodes.length) (hi : ∀ p q, p < q → q < d.Durable.length → (d.Durable.getD p dGDirEntry).Inode ≠ (d.Durable.getD q dGDirEntry).Inode) : durA d = true :=
  durB_of hn hs hr hi _ _ (by omega)
theorem durB_succ {N : Nat} {D : Dir} : ∀ (k i : Nat), durB N D i k = true → durB (N + 1) D i k = true
  | 0, _, _ => rfl
  | k + 1, i, h => by
    simp only [durB, Bool.and_eq_true] at h ⊢
    refine ⟨?_, durB_succ k (i + 1) h.2⟩
    have h1 := h.1
    simp only [okD, Bool.and_eq_true, decide_eq_true_eq] at h1 ⊢
    obtain ⟨a, b, c, e, f⟩ := h1
    exact ⟨a, b, c, by omega, f⟩
theorem ap_succ {N : Int} {l : Dir} {x : GDirOp} (h : (ap N l x).2 = true) : ap (N + 1) l x = ap N l x := by
  unfold ap at h ⊢
  cases hk : x.Kind == 1 with
  | false => rfl
  | true =>
    rw [hk] at h
    simp only [cond_true, Bool.and_eq_true, decide_eq_true_eq] at h ⊢
    obtain ⟨_, _, _, h4, _⟩ := h
    have h5 : x.Inode < N + 1 := by omega
    simp only [h4, h5, decide_true]
theorem aft_succ {N : Int} : ∀ {ops : List GDirOp} {l : Dir}, (aft N ops l).2 = true → aft (N + 1) ops l = aft N ops l
  | [], l, _ => rfl
  | x :: ops, l, h => by
    simp only [aft] at h ⊢
    cases ha : (ap N l x).2 with
    | false => rw [ha] at h; cases h
    | true =>
      rw [ha] at h
      simp only [cond_true] at h
      rw [ap_succ ha, ha]
      simp only [cond_true]
      exact aft_succ h
theorem aft_app {N : Int} {x : GDirOp} : ∀ {ops : List GDirOp} {l : Dir}, (aft N ops l).2 = true → aft N (ops ++ [x]) l = ap N (aft N ops l).1 x
  | [], l, _ => by
    simp only [List.nil_append, aft]
    cases ha : (ap N l x).2 <;> simp only [cond_true, cond_false] <;> rw [← ha]
  | y :: ops, l, h => by
    simp only [List.cons_append, aft] at h ⊢
    cases ha : (ap N l y).2 with
    | false => rw [ha] at h; cases h
    | true =>
      rw [ha] at h
      simp only [cond_true] at h ⊢
      exact aft_app h

theorem valid_of {d : GDisk} (h1 : d.Inodes.length ≤ 1000) (h2 : d.Pending.length ≤ 1000) (h3 : -1 ≤ d.Left) (h4 : d.Inodes.all okI = true) (h5 : durA d = true) (h6 : (cur d).2 = true) : valid d = true := by
  simp only [valid, h1, h2, h3, h4, h5, h6, decide_true, Bool.and_true]
theorem left_ok {d : GDisk} (h0 : d.Left ≠ 0) (h3 : -1 ≤ d.Left) : -1 ≤ (if d.Left > 0 then d.Left - 1 else d.Left) := by split <;> omega
theorem valid_prf {d next : GDisk} (h : valid d = true) (hn : ∀ L, -1 ≤ L → valid ⟨next.Inodes, next.Durable, next.Pending, L⟩ = true) : valid (prf d next).1 = true := by
  unfold prf
  split
  · exact h
  · rename_i h0
    exact hn _ (left_ok h0 (valid_il h).2.2.1)
theorem valid_chg {d : GDisk} {i : Nat} {x : GInode} (h : valid d = true) (hx : okI x = true) (L : Int) (hL : -1 ≤ L) : valid ⟨d.Inodes.set i x, d.Durable, d.Pending, L⟩ = true := by
  obtain ⟨h1, h2, h3, h4, h5, h6⟩ := valid_il h
  refine valid_of (by simpa using h1) h2 hL ?_ ?_ ?_
  · refine List.all_eq_true.2 fun y hy => ?_
    rcases List.mem_or_eq_of_mem_set hy with hy | hy
    · exact List.all_eq_true.1 h4 y hy
    · rw [hy]; exact hx
  · unfold durA at h5 ⊢; simpa using h5
  · unfold cur at h6 ⊢; simpa using h6
theorem valid_pend {d : GDisk} {x : GDirOp} (h : valid d = true) (hp : d.Pending.length < 1000) (hx : (ap (d.Inodes.length : Int) (cur d).1 x).2 = true) (L : Int) (hL : -1 ≤ L) : valid ⟨d.Inodes, d.Durable, d.Pending ++ [x], L⟩ = true := by
  obtain ⟨h1, h2, h3, h4, h5, h6⟩ := valid_il h
  refine valid_of h1 (by simp; omega) hL h4 h5 ?_
  show (aft (d.Inodes.length : Int) (d.Pending ++ [x]) d.Durable).2 = true
  rw [aft_app h6]; exact hx
theorem valid_new {d : GDisk} {x : GDirOp} (h : valid d = true) (hI : d.Inodes.length < 1000) (hp : d.Pending.length < 1000) (hx : (ap ((d.Inodes.length : Int) + 1) (cur d).1 x).2 = true) (L : Int) (hL : -1 ≤ L) : valid ⟨d.Inodes ++ [⟨bE, 0⟩], d.Durable, d.Pending ++ [x], L⟩ = true := by
  obtain ⟨h1, h2, h3, h4, h5, h6⟩ := valid_il h
  refine valid_of (by simp; omega) (by simp; omega) hL ?_ ?_ ?_
  · rw [List.all_append, h4]; rfl
  · show durB (d.Inodes ++ [(⟨bE, 0⟩ : GInode)]).length d.Durable 0 d.Durable.length = true
    rw [List.length_append]; exact durB_succ _ _ h5
  · show (aft ((d.Inodes ++ [(⟨bE, 0⟩ : GInode)]).length : Int) (d.Pending ++ [x]) d.Durable).2 = true
    have e : ((d.Inodes ++ [(⟨bE, 0⟩ : GInode)]).length : Int) = (d.Inodes.length : Int) + 1 := by simp
    have h7 := aft_succ h6
    rw [e, aft_app (by rw [h7]; exact h6), h7]; exact hx

theorem rnk_lt {l : Dir} {i : Nat} (h : usedE l (i : Int) = true) : rnk l i < rnk l (i + 1) := by simp only [rnk, h, cond_true]; omega
theorem rnk_mono (l : Dir) {i : Nat} : ∀ k, rnk l i ≤ rnk l (i + k)
  | 0 => Nat.le_refl _
  | k + 1 => by
    have := rnk_mono l (i := i) k
    have e : i + (k + 1) = i + k + 1 := by omega
    rw [e]; simp only [rnk]
    cases usedE l ((i + k : Nat) : Int) <;> simp only [cond_true, cond_false] <;> omega
theorem rnk_inj {l : Dir} {i j : Nat} (hij : i < j) (hi : usedE l (i : Int) = true) : rnk l i < rnk l j := by
  have h1 := rnk_lt hi
  obtain ⟨k, rfl⟩ : ∃ k, j = i + 1 + k := ⟨j - (i + 1), by omega⟩
  have := rnk_mono l (i := i + 1) k
  omega
theorem acI_sub (d : GDisk) (l : Dir) : ∀ (k i : Nat), i + k ≤ d.Inodes.length → ∀ x ∈ acI d l i k, x ∈ d.Inodes
  | 0, i, _, x, hx => by simp [acI] at hx
  | k + 1, i, h, x, hx => by
    have ih := acI_sub d l k (i + 1) (by omega) x
    simp only [acI] at hx
    cases hu : usedE l (i : Int) with
    | false => rw [hu] at hx; exact ih hx
    | true =>
      rw [hu] at hx
      rcases List.mem_cons.1 hx with rfl | hx
      · have := List.drop_subset i d.Inodes; rw [getD_drop (d := dGInode) (show i < d.Inodes.length by omega)] at this; exact this (by simp)
      · exact ih hx
theorem valid_sync {d : GDisk} (h : valid d = true) (hD : d.Durable.length ≤ 1000000000) (L : Int) (hL : -1 ≤ L) : valid ⟨acI d (cur d).1 0 d.Inodes.length, (cur d).1.map (rnkE (cur d).1), [], L⟩ = true := by
  obtain ⟨h1, h2, h3, h4, h5, h6⟩ := valid_il h
  obtain ⟨f, t, hR⟩ := cur_rd h hD
  have hal := acI_len d (cur d).1 d.Inodes.length 0
  simp only [rnk, Nat.zero_add, Nat.add_zero] at hal
  have hrk := rnk_le (cur d).1 d.Inodes.length
  have hused : ∀ e ∈ (cur d).1, usedE (cur d).1 ((e.Inode.toNat : Nat) : Int) = true := fun e he => usedE_iff.2 ⟨e, he, by have := (hR.rng e he).1; omega⟩
  refine valid_of (by simp only; omega) (by simp) hL ?_ ?_ rfl
  · exact List.all_eq_true.2 fun x hx => List.all_eq_true.1 h4 x (acI_sub d _ _ _ (by omega) x hx)
  · refine durA_of (fun e he => ?_) ?_ (fun e he => ?_) (fun p q hpq hq => ?_)
    · obtain ⟨e0, he0, rfl⟩ := List.mem_map.1 he
      exact hR.nms e0 he0
    · exact List.pairwise_map.2 hR.srt
    · obtain ⟨e0, he0, rfl⟩ := List.mem_map.1 he
      obtain ⟨r1, r2⟩ := hR.rng e0 he0
      have := rnk_inj (show e0.Inode.toNat < d.Inodes.length by omega) (hused e0 he0)
      simp only [rnkE]
      constructor
      · omega
      · omega
    · simp only [List.length_map] at hq
      have g : ∀ {c : Nat}, c < (cur d).1.length → ((cur d).1.map (rnkE (cur d).1)).getD c dGDirEntry = rnkE (cur d).1 ((cur d).1.getD c dGDirEntry) := fun hc => by simp [List.getD, List.getElem?_eq_getElem hc]
      have hmp := getD_mem (show p < (cur d).1.length by omega)
      have hmq := getD_mem hq
      show (((cur d).1.map (rnkE (cur d).1)).getD p dGDirEntry).Inode ≠ (((cur d).1.map (rnkE (cur d).1)).getD q dGDirEntry).Inode
      rw [g (by omega), g hq]
      simp only [rnkE]
      intro hh
      have hne : ((cur d).1.getD p dGDirEntry).Inode ≠ ((cur d).1.getD q dGDirEntry).Inode := fun e => by
        have := srt_inj hR.srt (show p < (cur d).1.length by omega) hq (hR.ind _ hmp _ hmq e)
        omega
      have rp := (hR.rng _ hmp).1
      have rq := (hR.rng _ hmq).1
      rcases Nat.lt_trichotomy ((cur d).1.getD p dGDirEntry).Inode.toNat ((cur d).1.getD q dGDirEntry).Inode.toNat with c | c | c
      · have := rnk_inj c (hused _ hmp); omega
      · omega
      · have := rnk_inj c (hused _ hmq); omega

theorem fnd_lk {d : GDisk} {name : ByteArray} (h : (fnd d name).2 = 0) : valid d = true ∧ lkE name (cur d).1 = some (fnd d name).1 := by
  unfold fnd at *
  cases hv : valid d with
  | false => rw [hv] at h; simp at h
  | true =>
    rw [hv] at h
    simp only [cond_true] at *
    cases hl : lkE name (cur d).1 with
    | none => rw [hl] at h; simp at h
    | some i => exact ⟨trivial, rfl⟩
theorem extract_size (s : ByteArray) (n : Nat) (h : n ≤ s.size) : (ByteArray.extract s 0 n).size = n := by
  rw [ByteArray.size_extract]; omega

/-! ### After a loss of power -/
theorem crI_get (d : GDisk) (picks : List Int) (l : Dir) : ∀ (k i j : Nat), j < k → (crI d picks l i k).getD j dGInode = ⟨ByteArray.extract (d.Inodes.getD (l.getD (i + j) dGDirEntry).Inode.toNat dGInode).Data 0 (kept d picks l (i + j)).toNat, kept d picks l (i + j)⟩
  | 0, _, _, h => by omega
  | k + 1, i, 0, _ => by simp [crI, List.getD]
  | k + 1, i, j + 1, h => by
    have := crI_get d picks l k (i + 1) j (by omega)
    rw [show i + (j + 1) = i + 1 + j by omega, ← this]
    simp [crI, List.getD]
theorem crD_get (l : Dir) : ∀ (k i j : Nat), j < k → (crD l i k).getD j dGDirEntry = ⟨(l.getD (i + j) dGDirEntry).Name, ((i + j : Nat) : Int)⟩
  | 0, _, _, h => by omega
  | k + 1, i, 0, _ => by simp [crD, List.getD]
  | k + 1, i, j + 1, h => by
    have := crD_get l k (i + 1) j (by omega)
    rw [show i + (j + 1) = i + 1 + j by omega, ← this]
    simp [crD, List.getD]
theorem get_mem {α : Type} {l : List α} {x : α} (d : α) (h : x ∈ l) : ∃ j, j < l.length ∧ l.getD j d = x := by
  obtain ⟨j, hj, he⟩ := List.getElem_of_mem h
  exact ⟨j, hj, by simp [List.getD, List.getElem?_eq_getElem hj, he]⟩
theorem crDir_Rd {d : GDisk} (picks : List Int) (hv : valid d = true) (hD : d.Durable.length ≤ 1000000000) : ∃ f t, Rd d.Inodes.length f t (crDir d picks) := by
  obtain ⟨i1, i2, i3, i4, i5, i6⟩ := valid_il hv
  obtain ⟨f, t, e1, hR⟩ := crDir_rd picks hv hD (d.Durable.length + 80) (by omega)
  have haft := aft_take (d.Inodes.length : Int) d.Pending d.Durable (crCount d picks) i6
  obtain ⟨f', t', _, hR'⟩ := crash_l0 2 d d.Inodes.length (d.Inodes.length, true, f, t) rfl (0, [], 0) [] [] (by omega) (d.Pending.take (crCount d picks)) (by rw [List.length_take]; omega) (d.Pending.take (crCount d picks)).length 0 ((d.Pending.take (crCount d picks)).length + 1) f t d.Durable (by omega) hR haft (by omega)
  rw [List.drop_zero] at hR'
  exact ⟨f', t', hR'⟩
theorem crF_valid {d : GDisk} (picks : List Int) (hv : valid d = true) (hD : d.Durable.length ≤ 1000000000) : valid (crF d picks) = true ∧ (crF d picks).Left = -1 ∧ (crF d picks).Pending = [] := by
  obtain ⟨i1, i2, i3, i4, i5, i6⟩ := valid_il hv
  obtain ⟨f, t, hR⟩ := crDir_Rd picks hv hD
  have hlb := hR.bound
  have hcf : crF d picks = ⟨crI d picks (crDir d picks) 0 (crDir d picks).length, crD (crDir d picks) 0 (crDir d picks).length, [], -1⟩ := by simp only [crF, hv, cond_true]
  have hgI := crI_len d picks (crDir d picks) (crDir d picks).length 0
  have hgD := crD_len (crDir d picks) (crDir d picks).length 0
  rw [hcf]
  refine ⟨valid_of (by simp only [hgI]; omega) (by simp) (by simp) ?_ ?_ rfl, rfl, rfl⟩
  · refine List.all_eq_true.2 fun x hx => ?_
    obtain ⟨j, hj, rfl⟩ := get_mem dGInode hx
    rw [hgI] at hj
    rw [crI_get d picks _ _ 0 j hj, Nat.zero_add]
    have hm := getD_mem hj
    obtain ⟨r1, r2⟩ := hR.rng _ hm
    have hok := inode_ok i4 r1 r2
    obtain ⟨o1, o2, o3⟩ := okI_spec hok
    obtain ⟨q1, q2⟩ := kept_in (picks := picks) hok
    have hsz := extract_size (d.Inodes.getD ((crDir d picks).getD j dGDirEntry).Inode.toNat dGInode).Data (kept d picks (crDir d picks) j).toNat (by omega)
    simp only [okI, hsz, show (kept d picks (crDir d picks) j).toNat ≤ 1048576 by omega, show 0 ≤ kept d picks (crDir d picks) j by omega, show kept d picks (crDir d picks) j ≤ (((kept d picks (crDir d picks) j).toNat : Nat) : Int) by omega, decide_true, Bool.and_true]
  · have hget : ∀ j, j < (crDir d picks).length → (crD (crDir d picks) 0 (crDir d picks).length).getD j dGDirEntry = ⟨((crDir d picks).getD j dGDirEntry).Name, (j : Int)⟩ := fun j hj => by rw [crD_get _ _ 0 j hj, Nat.zero_add]
    refine durA_of (fun e he => ?_) ?_ (fun e he => ?_) (fun p q hpq hq => ?_)
    · obtain ⟨j, hj, rfl⟩ := get_mem dGDirEntry he
      rw [hgD] at hj; rw [hget j hj]
      have := hR.nms _ (getD_mem hj); exact this
    · refine List.pairwise_iff_getElem.2 fun a b ha hb hab => ?_
      have h1 := hget a (by rw [hgD] at ha; exact ha)
      have h2 := hget b (by rw [hgD] at hb; exact hb)
      have g1 : (crD (crDir d picks) 0 (crDir d picks).length)[a] = ⟨((crDir d picks).getD a dGDirEntry).Name, (a : Int)⟩ := by rw [← h1]; simp [List.getD, List.getElem?_eq_getElem ha]
      have g2 : (crD (crDir d picks) 0 (crDir d picks).length)[b] = ⟨((crDir d picks).getD b dGDirEntry).Name, (b : Int)⟩ := by rw [← h2]; simp [List.getD, List.getElem?_eq_getElem hb]
      show ky ((crD (crDir d picks) 0 (crDir d picks).length)[a]).Name < ky ((crD (crDir d picks) 0 (crDir d picks).length)[b]).Name
      rw [g1, g2]
      exact srt_get hR.srt hab (by rw [hgD] at hb; exact hb)
    · obtain ⟨j, hj, rfl⟩ := get_mem dGDirEntry he
      rw [hgD] at hj; rw [hget j hj]
      simp only [hgI]; omega
    · simp only [hgD] at hq
      show ((crD (crDir d picks) 0 (crDir d picks).length).getD p dGDirEntry).Inode ≠ ((crD (crDir d picks) 0 (crDir d picks).length).getD q dGDirEntry).Inode
      rw [hget p (by omega), hget q hq]
      simp only; omega
theorem extract_all (s : ByteArray) (n : Nat) (h : s.size ≤ n) : ByteArray.extract s 0 n = s := by
  rw [ByteArray.ext_iff, ByteArray.data_extract]
  have : s.data.size ≤ n := h
  exact Array.extract_eq_self_of_le this
end Go.Proofs.YtomalcfghdaghaaGreatDoor

/- Plain laws, 12: losing power twice; what is read after a loss; DiskValid, DiskReplaces. -/
set_option linter.unusedVariables false
set_option linter.unusedSimpArgs false
namespace Go.Proofs.YtomalcfghdaghaaGreatDoor
open Go Go.AM

theorem crDir_nil {d : GDisk} (picks : List Int) (h : d.Pending = []) : crDir d picks = d.Durable := by simp only [crDir, h, List.take_nil, aft]
theorem cur_nil {d : GDisk} (h : d.Pending = []) : cur d = (d.Durable, true) := by simp only [cur, h, aft]
theorem crF_eq {d : GDisk} (picks : List Int) (hv : valid d = true) : crF d picks = ⟨crI d picks (crDir d picks) 0 (crDir d picks).length, crD (crDir d picks) 0 (crDir d picks).length, [], -1⟩ := by simp only [crF, hv, cond_true]
theorem crD_at (l : Dir) {j : Nat} (hj : j < l.length) : (crD l 0 l.length).getD j dGDirEntry = ⟨(l.getD j dGDirEntry).Name, (j : Int)⟩ := by rw [crD_get l _ 0 j hj, Nat.zero_add]
theorem crI_at (d : GDisk) (picks : List Int) (l : Dir) {j : Nat} (hj : j < l.length) : (crI d picks l 0 l.length).getD j dGInode = ⟨ByteArray.extract (d.Inodes.getD (l.getD j dGDirEntry).Inode.toNat dGInode).Data 0 (kept d picks l j).toNat, kept d picks l j⟩ := by rw [crI_get d picks l _ 0 j hj, Nat.zero_add]
theorem kept_ok {d : GDisk} (picks : List Int) {l : Dir} {j : Nat} (hO : d.Inodes.all okI = true) (hj : j < l.length) (h1 : 0 ≤ (l.getD j dGDirEntry).Inode) (h2 : (l.getD j dGDirEntry).Inode < d.Inodes.length) :
    (d.Inodes.getD (l.getD j dGDirEntry).Inode.toNat dGInode).Synced ≤ kept d picks l j ∧ kept d picks l j ≤ ((d.Inodes.getD (l.getD j dGDirEntry).Inode.toNat dGInode).Data.size : Int) ∧ 0 ≤ kept d picks l j := by
  have hok := inode_ok hO h1 h2
  obtain ⟨o1, o2, o3⟩ := okI_spec hok
  obtain ⟨q1, q2⟩ := kept_in (picks := picks) hok
  exact ⟨q1, q2, by omega⟩

theorem crF_bd {d : GDisk} (picks : List Int) (hv : valid d = true) (hD : d.Durable.length ≤ 1000000000) : Bd 1000 (crF d picks) := by
  obtain ⟨l1, l2, l3⟩ := crF_len (d := d) picks hD
  obtain ⟨v1, v2, v3⟩ := crF_valid picks hv hD
  obtain ⟨f, t, hR⟩ := cur_rd v1 (by omega)
  rw [cur_nil v3] at hR
  exact ⟨fun e he => by have := isNm_size (hR.nms e he); omega, fun x hx => by rw [v3] at hx; simp at hx, l2, by omega, l1, by omega⟩

theorem rd_some {d : GDisk} {name : ByteArray} {i : Int} (hv : valid d = true) (hl : lkE name (cur d).1 = some i) : rdF d name = ((d.Inodes.getD i.toNat dGInode).Data, 0) := by
  have : fnd d name = (i, 0) := by simp only [fnd, hv, hl, cond_true]
  simp only [rdF, this]; rfl
/-- What is read of an entry that a loss of power leaves. -/
theorem read_crash {d : GDisk} (picks : List Int) (hv : valid d = true) (hD : d.Durable.length ≤ 1000000000) {e : GDirEntry} (he : e ∈ crDir d picks) :
    ∃ k : Int, (d.Inodes.getD e.Inode.toNat dGInode).Synced ≤ k ∧ k ≤ ((d.Inodes.getD e.Inode.toNat dGInode).Data.size : Int) ∧ 0 ≤ k ∧ rdF (crF d picks) e.Name = (ByteArray.extract (d.Inodes.getD e.Inode.toNat dGInode).Data 0 k.toNat, 0) := by
  obtain ⟨v1, v2, v3⟩ := crF_valid picks hv hD
  obtain ⟨l1, l2, l3⟩ := crF_len (d := d) picks hD
  obtain ⟨f, t, hR⟩ := crDir_Rd picks hv hD
  obtain ⟨f', t', hR'⟩ := cur_rd v1 (by omega)
  have hgD := crD_len (crDir d picks) (crDir d picks).length 0
  obtain ⟨j, hj, rfl⟩ := get_mem dGDirEntry he
  have hdu : (crF d picks).Durable = crD (crDir d picks) 0 (crDir d picks).length := by rw [crF_eq picks hv]
  have hm : (⟨((crDir d picks).getD j dGDirEntry).Name, (j : Int)⟩ : GDirEntry) ∈ (cur (crF d picks)).1 := by
    rw [cur_nil v3, hdu, ← crD_at _ hj]; exact getD_mem (by rw [hgD]; exact hj)
  have hl := (lkE_some hR'.srt).2 hm
  obtain ⟨r1, r2⟩ := hR.rng _ (getD_mem hj)
  obtain ⟨k1, k2, k3⟩ := kept_ok picks (valid_il hv).2.2.2.1 hj r1 r2
  refine ⟨kept d picks (crDir d picks) j, k1, k2, k3, ?_⟩
  have hin : (crF d picks).Inodes = crI d picks (crDir d picks) 0 (crDir d picks).length := by rw [crF_eq picks hv]
  rw [rd_some v1 hl, toNat_c, hin, crI_at d picks _ hj]

theorem getD_set_ne {l : List GInode} {i j : Nat} {x : GInode} (h : i ≠ j) : (l.set i x).getD j dGInode = l.getD j dGInode := by
  simp [List.getD, List.getElem?_set, h]
theorem getD_set_eq {l : List GInode} {i : Nat} {x : GInode} (h : i < l.length) : (l.set i x).getD i dGInode = x := by
  simp [List.getD, List.getElem?_set, h]
theorem rdF_fnd {d : GDisk} {name : ByteArray} (h : (rdF d name).2 = 0) : (fnd d name).2 = 0 := by
  unfold rdF at h
  cases c : (fnd d name).2 == 0 with
  | true => simpa using c
  | false => rw [c] at h; exact h

end Go.Proofs.YtomalcfghdaghaaGreatDoor

/- Plain laws, 13: what a disk's files hold; maps held against each other; DiskLoss, DiskDurable. -/
set_option linter.unusedVariables false
set_option linter.unusedSimpArgs false
namespace Go.Proofs.YtomalcfghdaghaaGreatDoor
open Go Go.AM

/-- What is read under a name. -/
def con (d : GDisk) (name : ByteArray) : Option ByteArray := bif valid d then (lkE name (cur d).1).map (fun i => (d.Inodes.getD i.toNat dGInode).Data) else none
theorem con_some {d : GDisk} {name : ByteArray} {i : Int} (hv : valid d = true) (hl : lkE name (cur d).1 = some i) : con d name = some (d.Inodes.getD i.toNat dGInode).Data := by simp only [con, hv, hl, cond_true, Option.map_some]
theorem con_none {d : GDisk} {name : ByteArray} (hv : valid d = true) (hl : lkE name (cur d).1 = none) : con d name = none := by simp only [con, hv, hl, cond_true, Option.map_none]
theorem rdF_some {d : GDisk} {name s : ByteArray} (h : con d name = some s) : rdF d name = (s, 0) := by
  unfold con at h
  cases hv : valid d with
  | false => rw [hv] at h; cases h
  | true =>
    rw [hv] at h
    simp only [cond_true] at h
    cases hl : lkE name (cur d).1 with
    | none => rw [hl] at h; cases h
    | some i => rw [hl] at h; cases h; exact rd_some hv hl
theorem rdF_none {d : GDisk} {name : ByteArray} (h : con d name = none) : ((rdF d name).2 == 0) = false := by
  unfold con at h
  unfold rdF fnd
  cases hv : valid d with
  | false => rfl
  | true =>
    rw [hv] at h
    simp only [cond_true] at h ⊢
    cases hl : lkE name (cur d).1 with
    | none => rfl
    | some i => rw [hl] at h; cases h
theorem con_of {d : GDisk} {name s : ByteArray} (h : rdF d name = (s, 0)) : con d name = some s := by
  cases hc : con d name with
  | none => have := rdF_none hc; rw [h] at this; cases this
  | some t => rw [rdF_some hc] at h; cases h; rfl
/-! ### Two maps -/
/-! ### After a loss of power -/
theorem con_crF {d : GDisk} (picks : List Int) (hv : valid d = true) (hD : d.Durable.length ≤ 1000000000) (q : ByteArray) :
    (lkE q (crDir d picks) = none → con (crF d picks) q = none) ∧ ∀ i, lkE q (crDir d picks) = some i → ∃ k : Int, (d.Inodes.getD i.toNat dGInode).Synced ≤ k ∧ k ≤ ((d.Inodes.getD i.toNat dGInode).Data.size : Int) ∧ 0 ≤ k ∧ 0 ≤ i ∧ i < d.Inodes.length ∧ con (crF d picks) q = some (ByteArray.extract (d.Inodes.getD i.toNat dGInode).Data 0 k.toNat) := by
  obtain ⟨v1, v2, v3⟩ := crF_valid picks hv hD
  obtain ⟨f, t, hR⟩ := crDir_Rd picks hv hD
  have hgD := crD_len (crDir d picks) (crDir d picks).length 0
  refine ⟨fun h => con_none v1 ?_, fun i h => ?_⟩
  · rw [cur_nil v3, crF_eq picks hv]
    refine lkE_none.2 fun e he => ?_
    obtain ⟨j, hj, rfl⟩ := get_mem dGDirEntry he
    rw [hgD] at hj
    rw [crD_at _ hj]
    have := lkE_none.1 h _ (getD_mem hj); exact this
  · have hm := (lkE_some hR.srt).1 h
    obtain ⟨r1, r2⟩ := hR.rng _ hm
    obtain ⟨k, k1, k2, k3, k4⟩ := read_crash picks hv hD hm
    exact ⟨k, k1, k2, k3, r1, r2, con_of k4⟩
/-! ### DiskLoss -/
end Go.Proofs.YtomalcfghdaghaaGreatDoor

/- Plain laws, 14: what the operations do to the files; DiskDurable, DiskFiles. -/
set_option linter.unusedVariables false
set_option linter.unusedSimpArgs false
namespace Go.Proofs.YtomalcfghdaghaaGreatDoor
open Go Go.AM

/-! ### Contents, operation by operation -/
theorem con_chg {d : GDisk} {name : ByteArray} {y : GInode} {L : Int} (hD : d.Durable.length ≤ 1000000000) (h : (fnd d name).2 = 0) (hx : valid ⟨d.Inodes.set (ino d name) y, d.Durable, d.Pending, L⟩ = true) (q : ByteArray) :
    con ⟨d.Inodes.set (ino d name) y, d.Durable, d.Pending, L⟩ q = if q = name then some y.Data else con d q := by
  obtain ⟨hv, hl⟩ := fnd_lk h
  obtain ⟨f, t, hR⟩ := cur_rd hv hD
  obtain ⟨_, o2, o3, o4, _, _⟩ := file_ok hD h
  have hcur : cur ⟨d.Inodes.set (ino d name) y, d.Durable, d.Pending, L⟩ = cur d := by unfold cur; simp only [List.length_set]
  by_cases hq : q = name
  · subst hq
    rw [if_pos rfl, con_some hx (by rw [hcur]; exact hl)]
    show some ((d.Inodes.set (ino d q) y).getD (ino d q) dGInode).Data = _
    rw [getD_set_eq o2]
  · rw [if_neg hq]
    cases hlq : lkE q (cur d).1 with
    | none => rw [con_none hv hlq, con_none hx (by rw [hcur]; exact hlq)]
    | some i =>
      rw [con_some hv hlq, con_some hx (by rw [hcur]; exact hlq)]
      have m1 := (lkE_some hR.srt).1 hl
      have m2 := (lkE_some hR.srt).1 hlq
      have hne : i ≠ (fnd d name).1 := fun e => by
        have := hR.ind _ m2 _ m1 e
        injection this with h1 _
        exact hq h1
      have r2 := (hR.rng _ m2).1
      simp only at r2
      rw [getD_set_ne (show ino d name ≠ i.toNat by unfold ino; omega)]
theorem con_pend {d : GDisk} {x : GDirOp} {L : Int} (hv : valid d = true) (hx : valid ⟨d.Inodes, d.Durable, d.Pending ++ [x], L⟩ = true) (q : ByteArray) :
    con ⟨d.Inodes, d.Durable, d.Pending ++ [x], L⟩ q = (lkE q (ap (d.Inodes.length : Int) (cur d).1 x).1).map (fun i => (d.Inodes.getD i.toNat dGInode).Data) := by
  have i6 := (valid_il hv).2.2.2.2.2
  have hcur : cur ⟨d.Inodes, d.Durable, d.Pending ++ [x], L⟩ = ap (d.Inodes.length : Int) (cur d).1 x := aft_app i6
  simp only [con, hx, cond_true, hcur]
theorem con_map {d : GDisk} (hv : valid d = true) (q : ByteArray) : con d q = (lkE q (cur d).1).map (fun i => (d.Inodes.getD i.toNat dGInode).Data) := by simp only [con, hv, cond_true]
theorem con_rem {d : GDisk} {name : ByteArray} {L : Int} (hD : d.Durable.length ≤ 1000000000) (h : (fnd d name).2 = 0) (hx : valid ⟨d.Inodes, d.Durable, d.Pending ++ [⟨3, name, bE, 0⟩], L⟩ = true) (q : ByteArray) :
    con ⟨d.Inodes, d.Durable, d.Pending ++ [⟨3, name, bE, 0⟩], L⟩ q = if q = name then none else con d q := by
  obtain ⟨hv, hl⟩ := fnd_lk h
  obtain ⟨f, t, hR⟩ := cur_rd hv hD
  have hap : (ap (d.Inodes.length : Int) (cur d).1 ⟨3, name, bE, 0⟩).1 = wo (cur d).1 name := by
    simp only [ap, hl, show ((3 : Int) == 1) = false by rfl, show ((3 : Int) == 2) = false by rfl, show ((0 : Int) != 0) = false by rfl, cond_false]
  rw [con_pend hv hx, hap, lkE_wo hR.srt]
  by_cases hq : q = name
  · simp [hq]
  · simp [hq, con_map hv]
theorem con_ren {d : GDisk} {name to : ByteArray} {L : Int} (hD : d.Durable.length ≤ 1000000000) (h : (fnd d name).2 = 0) (hne : to ≠ name) (hnm : isNm to = true) (hx : valid ⟨d.Inodes, d.Durable, d.Pending ++ [⟨2, name, to, 0⟩], L⟩ = true) (q : ByteArray) :
    con ⟨d.Inodes, d.Durable, d.Pending ++ [⟨2, name, to, 0⟩], L⟩ q = if q = to then con d name else if q = name then none else con d q := by
  obtain ⟨hv, hl⟩ := fnd_lk h
  obtain ⟨f, t, hR⟩ := cur_rd hv hD
  have hap : (ap (d.Inodes.length : Int) (cur d).1 ⟨2, name, to, 0⟩).1 = wi ⟨to, (fnd d name).1⟩ (wo (wo (cur d).1 name) to) := by
    simp only [ap, hl, show ((2 : Int) == 1) = false by rfl, show ((2 : Int) == 2) = true by rfl, show ((0 : Int) != 0) = false by rfl, cond_false, cond_true]
  have s1 := srt_wo (name := name) hR.srt
  have s2 := srt_wo (name := to) s1
  have hno : lkE to (wo (wo (cur d).1 name) to) = none := by rw [lkE_wo s1]; simp
  rw [con_pend hv hx, hap, lkE_wi s2 hno, lkE_wo s1, lkE_wo hR.srt]
  by_cases hq : q = to
  · simp [hq, con_some hv hl]
  · by_cases hq2 : q = name
    · simp only [hq2, decide_true, cond_true, Ne.symm hne, decide_false, cond_false, if_false, if_true, Option.map_none]
    · simp [hq, hq2, con_map hv]
theorem con_crt {d : GDisk} {name : ByteArray} {L : Int} (hv : valid d = true) (hD : d.Durable.length ≤ 1000000000) (hn : lkE name (cur d).1 = none) (hx : valid ⟨d.Inodes ++ [⟨bE, 0⟩], d.Durable, d.Pending ++ [⟨1, name, bE, (d.Inodes.length : Int)⟩], L⟩ = true) (q : ByteArray) :
    con ⟨d.Inodes ++ [⟨bE, 0⟩], d.Durable, d.Pending ++ [⟨1, name, bE, (d.Inodes.length : Int)⟩], L⟩ q = if q = name then some bE else con d q := by
  obtain ⟨f, t, hR⟩ := cur_rd hv hD
  have i6 := (valid_il hv).2.2.2.2.2
  have h7 := aft_succ i6
  have e : ((d.Inodes ++ [(⟨bE, 0⟩ : GInode)]).length : Int) = (d.Inodes.length : Int) + 1 := by simp
  have hcur : (cur ⟨d.Inodes ++ [⟨bE, 0⟩], d.Durable, d.Pending ++ [⟨1, name, bE, (d.Inodes.length : Int)⟩], L⟩).1 = wi ⟨name, (d.Inodes.length : Int)⟩ (cur d).1 := by
    show (aft ((d.Inodes ++ [(⟨bE, 0⟩ : GInode)]).length : Int) (d.Pending ++ [⟨1, name, bE, (d.Inodes.length : Int)⟩]) d.Durable).1 = _
    rw [e, aft_app (by rw [h7]; exact i6), h7]
    simp only [ap, show ((1 : Int) == 1) = true by rfl, cond_true]; rfl
  rw [con_map hx, hcur, lkE_wi hR.srt hn]
  by_cases hq : q = name
  · simp only [hq, decide_true, cond_true, if_true, Option.map_some, toNat_c]
    simp [List.getD]
  · rw [if_neg hq, con_map hv]
    simp only [hq, decide_false, cond_false]
    cases hlq : lkE q (cur d).1 with
    | none => rfl
    | some i =>
      have m2 := (lkE_some hR.srt).1 hlq
      obtain ⟨r1, r2⟩ := hR.rng _ m2
      simp only at r1 r2
      have hi : i.toNat < d.Inodes.length := by omega
      simp only [Option.map_some, List.getD, List.getElem?_append_left hi]
theorem lkE_rnk (l : Dir) (q : ByteArray) : ∀ m : Dir, lkE q (m.map (rnkE l)) = (lkE q m).map (fun i => (rnk l i.toNat : Int))
  | [] => rfl
  | e :: m => by
    simp only [List.map_cons, lkE, rnkE, lkE_rnk l q m]
    cases decide (e.Name = q) <;> rfl
theorem acI_getD (d : GDisk) (l : Dir) : ∀ (k i q : Nat), i ≤ q → q < i + k → usedE l (q : Int) = true → (acI d l i k).getD (rnk l q - rnk l i) dGInode = d.Inodes.getD q dGInode
  | 0, i, q, h1, h2, _ => by omega
  | k + 1, i, q, h1, h2, hu => by
    simp only [acI]
    by_cases e : i = q
    · subst e; simp only [hu, cond_true, Nat.sub_self]; rfl
    · have hm := rnk_mono l (i := i + 1) (q - (i + 1))
      rw [show i + 1 + (q - (i + 1)) = q by omega] at hm
      have ih := acI_getD d l k (i + 1) q (by omega) (by omega) hu
      cases hi : usedE l (i : Int) with
      | false =>
        have : rnk l (i + 1) = rnk l i := by simp only [rnk, hi, cond_false]; try omega
        rw [this] at ih
        simp only [cond_false]; exact ih
      | true =>
        have hr : rnk l (i + 1) = rnk l i + 1 := by simp only [rnk, hi, cond_true]; try omega
        simp only [cond_true]
        rw [hr] at ih hm
        rw [show rnk l q - rnk l i = (rnk l q - (rnk l i + 1)) + 1 by omega]
        simpa [List.getD] using ih
theorem sd_at {d : GDisk} {q : ByteArray} {i : Int} (hv : valid d = true) (hD : d.Durable.length ≤ 1000000000) (hl : lkE q (cur d).1 = some i) : (acI d (cur d).1 0 d.Inodes.length).getD (rnk (cur d).1 i.toNat) dGInode = d.Inodes.getD i.toNat dGInode := by
  obtain ⟨f, t, hR⟩ := cur_rd hv hD
  have m := (lkE_some hR.srt).1 hl
  obtain ⟨r1, r2⟩ := hR.rng _ m
  simp only at r1 r2
  have := acI_getD d (cur d).1 d.Inodes.length 0 i.toNat (by omega) (by omega) (usedE_iff.2 ⟨_, m, by simp only; omega⟩)
  simpa [rnk] using this
/-! ### DiskDurable -/
structure Dur (d D : GDisk) (names : List ByteArray) : Prop where
  v : valid D = true
  du : D.Durable = d.Durable
  pe : D.Pending = d.Pending
  le : D.Left = -1
  il : D.Inodes.length = d.Inodes.length
  da : ∀ q, con D q = con d q
  sy : ∀ x ∈ names, ∀ i, lkE x (cur d).1 = some i → (D.Inodes.getD i.toNat dGInode).Synced = ((D.Inodes.getD i.toNat dGInode).Data.size : Int)
theorem Dur.cur {d D : GDisk} {l : List ByteArray} (h : Dur d D l) : cur D = cur d := by unfold Go.Proofs.YtomalcfghdaghaaGreatDoor.cur; rw [h.du, h.pe, h.il]
theorem Dur.bd {d D : GDisk} {l : List ByteArray} {B : Nat} (h : Dur d D l) (hb : Bd B d) : Bd B D := ⟨fun e he => hb.dn e (by rw [← h.du]; exact he), fun e he => hb.pn e (by rw [← h.pe]; exact he), by rw [h.du]; exact hb.dl, by rw [h.pe]; exact hb.pl, by rw [h.il]; exact hb.il, hb.big⟩
end Go.Proofs.YtomalcfghdaghaaGreatDoor

/- Plain laws, 15: DiskFiles. -/
set_option linter.unusedVariables false
set_option linter.unusedSimpArgs false
namespace Go.Proofs.YtomalcfghdaghaaGreatDoor
open Go Go.AM

theorem con_fnd {d : GDisk} {name : ByteArray} (h : (fnd d name).2 = 0) : con d name = some (file d name).Data := by
  obtain ⟨hv, hl⟩ := fnd_lk h
  rw [con_some hv hl]; rfl

end Go.Proofs.YtomalcfghdaghaaGreatDoor
