/- Plain laws, 3: one pending operation, and all of them, in the reference and in the program. -/
import Derived.Test.YtkignmhjbjgkoaaGreatSp2
set_option linter.unusedVariables false
set_option linter.unusedSimpArgs false
namespace Go.Proofs.YtkignmhjbjgkoaaGreat
open Go Go.AM

def ap (N : Int) (l : Dir) (x : GDirOp) : Dir × Bool :=
  bif x.Kind == 1 then (wi ⟨x.Name, x.Inode⟩ l, isNm x.Name && ((lkE x.Name l).isNone && (decide (x.Inode ≥ 0) && (decide (x.Inode < N) && (!usedE l x.Inode && decide (x.To = bE))))))
  else match lkE x.Name l with
    | none => (l, false)
    | some ino => bif x.Inode != 0 then (l, false) else bif x.Kind == 2 then (wi ⟨x.To, ino⟩ (wo (wo l x.Name) x.To), isNm x.To && !decide (x.To = x.Name)) else (wo l x.Name, x.Kind == 3 && decide (x.To = bE))
def aft (N : Int) : List GDirOp → Dir → Dir × Bool
  | [], l => (l, true)
  | x :: ops, l => bif (ap N l x).2 then aft N ops (ap N l x).1 else ((ap N l x).1, false)

theorem ap_len (N : Int) (l : Dir) (x : GDirOp) : (ap N l x).1.length ≤ l.length + 1 := by
  unfold ap
  cases x.Kind == 1 with
  | true => simp [len_wi]
  | false =>
    simp only [cond_false]
    cases lkE x.Name l with
    | none => simp
    | some ino =>
      cases x.Inode != 0 <;> simp only [cond_true, cond_false]
      · cases x.Kind == 2 <;> simp only [cond_true, cond_false]
        · have := len_wo l x.Name; omega
        · rw [len_wi]; have := len_wo l x.Name; have := len_wo (wo l x.Name) x.To; omega
      · omega

theorem apply_l0 (n : Nat) (l : Dir) (N : Int) (x : GDirOp) (r1 : Int) : ∀ (k i m : Nat) (b : Bool), i + k = l.length → l.length ≤ 1000000000 → k < m →
    lookoutref22_apply_l0 n l N x r1 m b (i : Int) = lookoutref22_apply_s2 n l N x r1 (b || usedE (l.drop i) x.Inode)
  | k, i, 0, _, _, _, h => by omega
  | 0, i, m + 1, b, h, h1, _ => by
    have : ¬ ((i : Int) < (l.length : Int)) := by omega
    have h2 : l.drop i = [] := List.drop_eq_nil_of_le (by omega)
    simp [lookoutref22_apply_l0, this, h2, usedE]
  | k + 1, i, m + 1, b, h, h1, h2 => by
    have hw := wr1 i (by omega)
    have hlt : (i : Int) < (l.length : Int) := by omega
    have h0 : (0 : Int) ≤ (i : Int) := by omega
    have ih : ∀ b, lookoutref22_apply_l0 n l N x r1 m b ((i + 1 : Nat) : Int) = lookoutref22_apply_s2 n l N x r1 (b || usedE (l.drop (i + 1)) x.Inode) := fun b => apply_l0 n l N x r1 k (i + 1) m b (by omega) h1 (by omega)
    rw [getD_drop (d := dGDirEntry) (show i < l.length by omega)]
    simp only [lookoutref22_apply_l0, lookoutref22_apply_s1, hlt, h0, decide_true, Bool.and_true, cond_true, toNat_c, hw, ih, usedE, List.any_cons]
    cases b <;> simp

theorem apply_s3 (n : Nat) (l : Dir) (x : GDirOp) (b : Bool) (h : l.length + 2 ≤ n) (hl : l.length ≤ 1000000000) : lookoutref22_apply_s3 n l x b = some (wi ⟨x.Name, x.Inode⟩ l, b) := by
  simp only [lookoutref22_apply_s3, with_eq n l _ h hl, Option.bind_some]

theorem apply_eq (n : Nat) (l : Dir) (x : GDirOp) (N : Int) (h : l.length + x.Name.size + x.To.size + 5 ≤ n) (hl : l.length + 10 ≤ 1000000000) (hs : x.Name.size + x.To.size < 1000000000) : lookoutref22_apply n l x N = some (ap N l x) := by
  obtain ⟨m, rfl⟩ : ∃ m, n = m + 1 := ⟨n - 1, by omega⟩
  obtain ⟨i1, i2⟩ := ix_lk x.Name l
  simp only [lookoutref22_apply, find_eq m l x.Name (by omega) (by omega), Option.bind_some, ap]
  cases hk : x.Kind == 1 with
  | true =>
    simp only [cond_true]
    have e := apply_l0 m l N x (match ixE x.Name l with | some j => (j : Int) | none => -1) l.length 0 m false (by omega) (by omega) (by omega)
    refine Eq.trans e ?_
    simp only [Bool.false_or, List.drop_zero, lookoutref22_apply_s2, name_eq m x.Name (by omega) (by omega), Option.bind_some, apply_s3 m l x _ (show l.length + 2 ≤ m by omega) (by omega), sEq_eq]
    have hr : decide ((match ixE x.Name l with | some j => (j : Int) | none => -1) < 0) = (lkE x.Name l).isNone := by
      rw [← i1]; cases ixE x.Name l <;> simp
    rw [hr]
    cases isNm x.Name <;> cases (lkE x.Name l).isNone <;> cases decide (x.Inode ≥ 0) <;> cases decide (x.Inode < N) <;> cases usedE l x.Inode <;> rfl
  | false =>
    simp only [cond_false, lookoutref22_apply_s4]
    cases hx : ixE x.Name l with
    | none =>
      rw [hx] at i1
      rw [← i1]
      simp
    | some j =>
      rw [hx] at i1
      have hj := i2 j hx
      rw [← i1]
      have h1 : ¬ ((j : Int) < 0) := by omega
      have h2 : (0 : Int) ≤ (j : Int) := by omega
      have h3 : (j : Int) < (l.length : Int) := by omega
      simp only [Option.map_some, h1, h2, h3, decide_false, decide_true, Bool.and_true, cond_false, cond_true, toNat_c, without_eq m l x.Name (by omega) (by omega), Option.bind_some]
      have l1 := len_wo l x.Name
      have l2 := len_wo (wo l x.Name) x.To
      cases hi : x.Inode != 0 with
      | true => rfl
      | false =>
        simp only [cond_false]
        cases hk2 : x.Kind == 2 with
        | true =>
          simp only [cond_true, without_eq m (wo l x.Name) x.To (by omega) (by omega), Option.bind_some, with_eq m (wo (wo l x.Name) x.To) _ (by omega) (by omega), name_eq m x.To (by omega) (by omega), sNe_eq]
          cases isNm x.To <;> rfl
        | false =>
          simp only [cond_false, sEq_eq]
          cases x.Kind == 3 <;> rfl

theorem after_l0 (n : Nat) (ops : List GDirOp) (N : Int) (S : Nat) (hS : ∀ x ∈ ops, x.Name.size + x.To.size ≤ S) : ∀ (k i m : Nat) (l : Dir) (b : Bool), i + k = ops.length → l.length + k + S + 5 ≤ n → l.length + k + 10 ≤ 1000000000 → S < 1000000000 → ops.length ≤ 1000000000 → k < m →
    lookoutref22_after_l0 n ops N m l b (i : Int) = some (bif b then aft N (ops.drop i) l else (l, false))
  | k, i, 0, _, _, _, _, _, _, _, h => by omega
  | 0, i, m + 1, l, b, h, _, _, _, _, _ => by
    have : ¬ ((i : Int) < (ops.length : Int)) := by omega
    have h2 : ops.drop i = [] := List.drop_eq_nil_of_le (by omega)
    simp only [lookoutref22_after_l0, lookoutref22_after_s1, this, decide_false, cond_false, h2, aft]
    cases b <;> rfl
  | k + 1, i, m + 1, l, b, h, h1, h2, h3, h4, h5 => by
    have hw := wr1 i (by omega)
    have hlt : (i : Int) < (ops.length : Int) := by omega
    have h0 : (0 : Int) ≤ (i : Int) := by omega
    have hd := getD_drop (d := dGDirOp) (show i < ops.length by omega)
    have hm : ops.getD i dGDirOp ∈ ops := by have := List.drop_subset i ops; rw [hd] at this; exact this (by simp)
    have hsz := hS _ hm
    cases b with
    | false => simp only [lookoutref22_after_l0, lookoutref22_after_s1, cond_false]
    | true =>
      have hlen := ap_len N l (ops.getD i dGDirOp)
      have ih := after_l0 n ops N S hS k (i + 1) m (ap N l (ops.getD i dGDirOp)).1 (ap N l (ops.getD i dGDirOp)).2 (by omega) (by omega) (by omega) h3 h4 (by omega)
      rw [hd]
      simp only [lookoutref22_after_l0, hlt, h0, decide_true, Bool.and_true, cond_true, toNat_c, hw, apply_eq n l (ops.getD i dGDirOp) N (by omega) (by omega) (by omega), Option.bind_some, ih, aft]
theorem after_eq (n : Nat) (l : Dir) (ops : List GDirOp) (N : Int) (S : Nat) (hS : ∀ x ∈ ops, x.Name.size + x.To.size ≤ S) (h : l.length + ops.length + S + 6 ≤ n) (hl : l.length + ops.length + 10 ≤ 1000000000) (h3 : S < 1000000000) : lookoutref22_after n l ops N = some (aft N ops l) := by
  obtain ⟨m, rfl⟩ : ∃ m, n = m + 1 := ⟨n - 1, by omega⟩
  simp only [lookoutref22_after]
  have := after_l0 m ops N S hS ops.length 0 m l true (by omega) (by omega) (by omega) h3 (by omega) (by omega)
  exact this.trans (by simp)

/-! ### The program's directory -/
theorem lk_is {N : Nat} {files : List (ByteArray × Int)} {taken : List Bool} {l : Dir} (h : Rd N files taken l) (k : ByteArray) : (lk k files).isSome = !(lkE k l).isNone := by
  rw [h.lks]; cases lkE k l <;> rfl
theorem rng_of {N : Nat} {files : List (ByteArray × Int)} {taken : List Bool} {l : Dir} (h : Rd N files taken l) {k : ByteArray} {ino : Int} (hk : lkE k l = some ino) : 0 ≤ ino ∧ ino < N := h.rng _ ((lkE_some h.srt).1 hk)
theorem blt_of {i n : Nat} (h : i < n) : Nat.blt i n = true := by rw [Nat.blt_eq]; exact h

theorem mayCreate_eq {N n : Nat} {files : List (ByteArray × Int)} {taken : List Bool} {l : Dir} (h : Rd N files taken l) (x : GDirOp) (hk : x.Kind = 1) (hn : 70 ≤ n) : disk_mayCreate n N x files taken = some ((ap N l x).2, files, taken) := by
  obtain ⟨m, rfl⟩ : ∃ m, n = m + 1 := ⟨n - 1, by omega⟩
  simp only [disk_mayCreate, isName_eq m x.Name (by omega), Option.bind_some, lk_is h, sEq_eq, Bool.not_not, ap, hk, beq_self_eq_true, cond_true]
  cases isNm x.Name <;> cases (lkE x.Name l).isNone <;> cases decide (x.To = bE) <;> simp only [cond_true, cond_false, Bool.true_and, Bool.false_and, Bool.and_true, Bool.and_false]
  by_cases h1 : x.Inode ≥ 0
  · by_cases h2 : x.Inode < (N : Int)
    · have h3 : (0 : Int) ≤ x.Inode := h1
      have hb : x.Inode.toNat < taken.length := by rw [h.len]; omega
      have ht := h.tkn x.Inode.toNat (by omega)
      have he : ((x.Inode.toNat : Nat) : Int) = x.Inode := by omega
      rw [he] at ht
      simp only [h1, h2, h3, decide_true, cond_true, Bool.and_true, Bool.true_and, blt_of hb, ht]
    · simp only [h1, h2, decide_true, decide_false, cond_true, cond_false, Bool.and_false, Bool.false_and]
  · simp only [h1, decide_false, cond_false, Bool.false_and]

theorem create_eq {N n : Nat} {files : List (ByteArray × Int)} {taken : List Bool} {l : Dir} (h : Rd N files taken l) (x : GDirOp) (hk : x.Kind = 1) (ha : (ap N l x).2 = true) (hn : 1 ≤ n) : ∃ f t, disk_create n N x files taken = some (f, t) ∧ Rd N f t (ap N l x).1 := by
  obtain ⟨m, rfl⟩ : ∃ m, n = m + 1 := ⟨n - 1, by omega⟩
  simp only [ap, hk, beq_self_eq_true, cond_true, Bool.and_eq_true, decide_eq_true_eq, Bool.not_eq_true'] at ha ⊢
  obtain ⟨h0, h1, h2, h3, h4, _⟩ := ha
  have h5 : (0 : Int) ≤ x.Inode := h2
  have hb : x.Inode.toNat < taken.length := by rw [h.len]; omega
  refine ⟨_, _, by simp only [disk_create, h3, h5, decide_true, Bool.and_true, cond_true, blt_of hb], h.create h2 h3 (by simpa using h1) h4 h0⟩

theorem mayRename_eq {N n : Nat} {files : List (ByteArray × Int)} {taken : List Bool} {l : Dir} (h : Rd N files taken l) (x : GDirOp) (hk : x.Kind = 2) (hn : 70 ≤ n) : disk_mayRename n N x files taken = some ((ap N l x).2, files, taken) := by
  obtain ⟨m, rfl⟩ : ∃ m, n = m + 1 := ⟨n - 1, by omega⟩
  simp only [disk_mayRename, isName_eq m x.To (by omega), Option.bind_some, lk_is h, sNe_eq, ap, hk, show ((2 : Int) == 1) = false by rfl, show ((2 : Int) == 2) = true by rfl, cond_true, cond_false]
  cases lkE x.Name l with
  | none => rfl
  | some ino =>
    simp only [Option.isNone_some, Bool.not_false, cond_true]
    cases hi : x.Inode == 0 <;> simp only [bne, hi, Bool.not_true, Bool.not_false, cond_true, cond_false] <;> cases isNm x.To <;> cases decide (x.To = x.Name) <;> rfl
theorem rename_eq {N n : Nat} {files : List (ByteArray × Int)} {taken : List Bool} {l : Dir} (h : Rd N files taken l) (x : GDirOp) (hk : x.Kind = 2) (ha : (ap N l x).2 = true) (hn : 1 ≤ n) : ∃ f t, disk_rename n N x files taken = some (f, t) ∧ Rd N f t (ap N l x).1 := by
  obtain ⟨m, rfl⟩ : ∃ m, n = m + 1 := ⟨n - 1, by omega⟩
  simp only [ap, hk, show ((2 : Int) == 1) = false by rfl, show ((2 : Int) == 2) = true by rfl, cond_true, cond_false] at ha ⊢
  cases hl : lkE x.Name l with
  | none => rw [hl] at ha; cases ha
  | some ino =>
    rw [hl] at ha
    simp only at ha
    cases hi : x.Inode != 0 with
    | true => rw [hi] at ha; cases ha
    | false =>
      rw [hi] at ha
      simp only [cond_false, Bool.and_eq_true, Bool.not_eq_true', decide_eq_false_iff_not] at ha ⊢
      have hR := h.rename hl ha.2 ha.1
      simp only [disk_rename, disk_rename_s0, h.lks, hl, Option.getD_some]
      cases ho : lkE x.To l with
      | none =>
        rw [ho] at hR
        exact ⟨_, _, rfl, hR⟩
      | some old =>
        rw [ho] at hR
        obtain ⟨r1, r2⟩ := rng_of h ho
        have hb : old.toNat < taken.length := by rw [h.len]; omega
        simp only [Option.isSome_some, cond_true, Option.getD_some, r1, r2, decide_true, Bool.and_true, blt_of hb]
        exact ⟨_, _, rfl, hR⟩
theorem mayRemove_eq {N n : Nat} {files : List (ByteArray × Int)} {taken : List Bool} {l : Dir} (h : Rd N files taken l) (x : GDirOp) (hk : x.Kind = 3) (hn : 1 ≤ n) : disk_mayRemove n N x files taken = some ((ap N l x).2, files, taken) := by
  obtain ⟨m, rfl⟩ : ∃ m, n = m + 1 := ⟨n - 1, by omega⟩
  simp only [disk_mayRemove, lk_is h, sEq_eq, ap, hk, show ((3 : Int) == 1) = false by rfl, show ((3 : Int) == 2) = false by rfl, show ((3 : Int) == 3) = true by rfl, cond_false]
  cases lkE x.Name l with
  | none => rfl
  | some ino =>
    simp only [Option.isNone_some, Bool.not_false, cond_true]
    cases hi : x.Inode == 0 <;> simp only [bne, hi, Bool.not_true, Bool.not_false, cond_true, cond_false] <;> cases decide (x.To = bE) <;> rfl
theorem remove_eq {N n : Nat} {files : List (ByteArray × Int)} {taken : List Bool} {l : Dir} (h : Rd N files taken l) (x : GDirOp) (hk : x.Kind = 3) (ha : (ap N l x).2 = true) (hn : 1 ≤ n) : ∃ f t, disk_remove n N x files taken = some (f, t) ∧ Rd N f t (ap N l x).1 := by
  obtain ⟨m, rfl⟩ : ∃ m, n = m + 1 := ⟨n - 1, by omega⟩
  simp only [ap, hk, show ((3 : Int) == 1) = false by rfl, show ((3 : Int) == 2) = false by rfl, show ((3 : Int) == 3) = true by rfl, cond_false] at ha ⊢
  cases hl : lkE x.Name l with
  | none => rw [hl] at ha; cases ha
  | some ino =>
    rw [hl] at ha
    simp only at ha
    cases hi : x.Inode != 0 with
    | true => rw [hi] at ha; cases ha
    | false =>
      obtain ⟨r1, r2⟩ := rng_of h hl
      have hb : ino.toNat < taken.length := by rw [h.len]; omega
      simp only [disk_remove, h.lks, hl, Option.getD_some, r1, r2, decide_true, Bool.and_true, cond_true, cond_false, blt_of hb]
      exact ⟨_, _, rfl, h.remove hl⟩
/-- An operation of no kind is refused. -/
theorem ap_none {N : Int} {l : Dir} {x : GDirOp} (h1 : x.Kind ≠ 1) (h2 : x.Kind ≠ 2) (h3 : x.Kind ≠ 3) : (ap N l x).2 = false := by
  have e1 : (x.Kind == 1) = false := by simpa using h1
  have e2 : (x.Kind == 2) = false := by simpa using h2
  have e3 : (x.Kind == 3) = false := by simpa using h3
  simp only [ap, e1, e2, e3, cond_false, Bool.false_and]
  cases lkE x.Name l with
  | none => rfl
  | some ino => cases x.Inode != 0 <;> rfl
end Go.Proofs.YtkignmhjbjgkoaaGreat
