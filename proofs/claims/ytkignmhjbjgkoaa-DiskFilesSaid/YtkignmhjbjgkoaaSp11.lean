/- Plain laws, 11: what is valid stays valid; DiskValid, DiskReplaces. -/
import Derived.Test.YtkignmhjbjgkoaaSp10
set_option linter.unusedVariables false
set_option linter.unusedSimpArgs false
namespace Go.Proofs.Ytkignmhjbjgkoaa
open Go Go.AM

theorem mem_take {D : Dir} {i : Nat} {e : GDirEntry} (h : e ∈ D.take i) : ∃ p, p < i ∧ p < D.length ∧ D.getD p dGDirEntry = e := by
  obtain ⟨p, hp, he⟩ := List.getElem_of_mem h
  have hp' : p < i ∧ p < D.length := by rw [List.length_take] at hp; omega
  refine ⟨p, hp'.1, hp'.2, ?_⟩
  rw [List.getElem_take] at he
  simp [List.getD, List.getElem?_eq_getElem hp'.2, he]
theorem srt_get {D : Dir} (h : Srt D) {a b : Nat} (hab : a < b) (hb : b < D.length) : ky (D.getD a dGDirEntry).Name < ky (D.getD b dGDirEntry).Name := by
  have := List.pairwise_iff_getElem.1 h a b (by omega) hb hab
  simpa [List.getD, List.getElem?_eq_getElem hb, List.getElem?_eq_getElem (show a < D.length by omega)] using this
theorem durB_of {N : Nat} {D : Dir} (hn : ∀ e ∈ D, isNm e.Name = true) (hs : Srt D) (hr : ∀ e ∈ D, 0 ≤ e.Inode ∧ e.Inode < N) (hi : ∀ p q, p < q → q < D.length → (D.getD p dGDirEntry).Inode ≠ (D.getD q dGDirEntry).Inode) : ∀ (k i : Nat), i + k = D.length → durB N D i k = true
  | 0, i, _ => rfl
  | k + 1, i, h => by
    have hm := getD_mem (show i < D.length by omega)
    have ih := durB_of hn hs hr hi k (i + 1) (by omega)
    have hu : usedE (D.take i) (D.getD i dGDirEntry).Inode = false := by
      cases hu : usedE (D.take i) (D.getD i dGDirEntry).Inode with
      | false => rfl
      | true =>
        obtain ⟨e, he, hh⟩ := usedE_iff.1 hu
        obtain ⟨p, p1, p2, rfl⟩ := mem_take he
        exact absurd hh (hi p i p1 (by omega))
    obtain ⟨r1, r2⟩ := hr _ hm
    have hlast : (decide (i = 0) || decide (ky (D.getD (i - 1) dGDirEntry).Name < ky (D.getD i dGDirEntry).Name)) = true := by
      by_cases h0 : i = 0
      · simp [h0]
      · have := srt_get hs (show i - 1 < i by omega) (show i < D.length by omega)
        rw [decide_eq_true this, Bool.or_true]
    simp only [durB, okD, ih, hn _ hm, hlast, r1, r2, hu, decide_true, Bool.and_true, Bool.not_false]
theorem durA_of {d : GDisk} (hn : ∀ e ∈ d.Durable, isNm e.Name = true) (hs : Srt d.Durable) (hr : ∀ e ∈ d.Durable, 0 ≤ e.Inode ∧ e.Inode < d.Inodes.length) (hi : ∀ p q, p < q → q < d.Durable.length → (d.Durable.getD p dGDirEntry).Inode ≠ (d.Durable.getD q dGDirEntry).Inode) : durA d = true :=
  durB_of hn hs hr hi _ _ (by omega)
theorem durB_succ {N : Nat} {D : Dir} : ∀ (k i : Nat), durB N D i k = true → durB (N + 1) D i k = true
  | 0, _, _ => rfl
  | k + 1, i, h => by
    simp only [durB, Bool.and_eq_true] at h ⊢
    refine ⟨?_, durB_succ k (i + 1) h.2⟩
    have h1 := h.1
    simp only [okD, Bool.and_eq_true, decide_eq_true_eq] at h1 ⊢
    obtain ⟨a, b, c, e, f⟩ := h1
    exact ⟨a, b, c, by omega, f⟩
theorem ap_succ {N : Int} {l : Dir} {x : GDirOp} (h : (ap N l x).2 = true) : ap (N + 1) l x = ap N l x := by
  unfold ap at h ⊢
  cases hk : x.Kind == 1 with
  | false => rfl
  | true =>
    rw [hk] at h
    simp only [cond_true, Bool.and_eq_true, decide_eq_true_eq] at h ⊢
    obtain ⟨_, _, _, h4, _⟩ := h
    have h5 : x.Inode < N + 1 := by omega
    simp only [h4, h5, decide_true]
theorem aft_succ {N : Int} : ∀ {ops : List GDirOp} {l : Dir}, (aft N ops l).2 = true → aft (N + 1) ops l = aft N ops l
  | [], l, _ => rfl
  | x :: ops, l, h => by
    simp only [aft] at h ⊢
    cases ha : (ap N l x).2 with
    | false => rw [ha] at h; cases h
    | true =>
      rw [ha] at h
      simp only [cond_true] at h
      rw [ap_succ ha, ha]
      simp only [cond_true]
      exact aft_succ h
theorem aft_app {N : Int} {x : GDirOp} : ∀ {ops : List GDirOp} {l : Dir}, (aft N ops l).2 = true → aft N (ops ++ [x]) l = ap N (aft N ops l).1 x
  | [], l, _ => by
    simp only [List.nil_append, aft]
    cases ha : (ap N l x).2 <;> simp only [cond_true, cond_false] <;> rw [← ha]
  | y :: ops, l, h => by
    simp only [List.cons_append, aft] at h ⊢
    cases ha : (ap N l y).2 with
    | false => rw [ha] at h; cases h
    | true =>
      rw [ha] at h
      simp only [cond_true] at h ⊢
      exact aft_app h

theorem valid_of {d : GDisk} (h1 : d.Inodes.length ≤ 1000) (h2 : d.Pending.length ≤ 1000) (h3 : -1 ≤ d.Left) (h4 : d.Inodes.all okI = true) (h5 : durA d = true) (h6 : (cur d).2 = true) : valid d = true := by
  simp only [valid, h1, h2, h3, h4, h5, h6, decide_true, Bool.and_true]
theorem left_ok {d : GDisk} (h0 : d.Left ≠ 0) (h3 : -1 ≤ d.Left) : -1 ≤ (if d.Left > 0 then d.Left - 1 else d.Left) := by split <;> omega
theorem valid_prf {d next : GDisk} (h : valid d = true) (hn : ∀ L, -1 ≤ L → valid ⟨next.Inodes, next.Durable, next.Pending, L⟩ = true) : valid (prf d next).1 = true := by
  unfold prf
  split
  · exact h
  · rename_i h0
    exact hn _ (left_ok h0 (valid_il h).2.2.1)
theorem valid_chg {d : GDisk} {i : Nat} {x : GInode} (h : valid d = true) (hx : okI x = true) (L : Int) (hL : -1 ≤ L) : valid ⟨d.Inodes.set i x, d.Durable, d.Pending, L⟩ = true := by
  obtain ⟨h1, h2, h3, h4, h5, h6⟩ := valid_il h
  refine valid_of (by simpa using h1) h2 hL ?_ ?_ ?_
  · refine List.all_eq_true.2 fun y hy => ?_
    rcases List.mem_or_eq_of_mem_set hy with hy | hy
    · exact List.all_eq_true.1 h4 y hy
    · rw [hy]; exact hx
  · unfold durA at h5 ⊢; simpa using h5
  · unfold cur at h6 ⊢; simpa using h6
theorem valid_pend {d : GDisk} {x : GDirOp} (h : valid d = true) (hp : d.Pending.length < 1000) (hx : (ap (d.Inodes.length : Int) (cur d).1 x).2 = true) (L : Int) (hL : -1 ≤ L) : valid ⟨d.Inodes, d.Durable, d.Pending ++ [x], L⟩ = true := by
  obtain ⟨h1, h2, h3, h4, h5, h6⟩ := valid_il h
  refine valid_of h1 (by simp; omega) hL h4 h5 ?_
  show (aft (d.Inodes.length : Int) (d.Pending ++ [x]) d.Durable).2 = true
  rw [aft_app h6]; exact hx
theorem valid_new {d : GDisk} {x : GDirOp} (h : valid d = true) (hI : d.Inodes.length < 1000) (hp : d.Pending.length < 1000) (hx : (ap ((d.Inodes.length : Int) + 1) (cur d).1 x).2 = true) (L : Int) (hL : -1 ≤ L) : valid ⟨d.Inodes ++ [⟨bE, 0⟩], d.Durable, d.Pending ++ [x], L⟩ = true := by
  obtain ⟨h1, h2, h3, h4, h5, h6⟩ := valid_il h
  refine valid_of (by simp; omega) (by simp; omega) hL ?_ ?_ ?_
  · rw [List.all_append, h4]; rfl
  · show durB (d.Inodes ++ [(⟨bE, 0⟩ : GInode)]).length d.Durable 0 d.Durable.length = true
    rw [List.length_append]; exact durB_succ _ _ h5
  · show (aft ((d.Inodes ++ [(⟨bE, 0⟩ : GInode)]).length : Int) (d.Pending ++ [x]) d.Durable).2 = true
    have e : ((d.Inodes ++ [(⟨bE, 0⟩ : GInode)]).length : Int) = (d.Inodes.length : Int) + 1 := by simp
    have h7 := aft_succ h6
    rw [e, aft_app (by rw [h7]; exact h6), h7]; exact hx

theorem rnk_lt {l : Dir} {i : Nat} (h : usedE l (i : Int) = true) : rnk l i < rnk l (i + 1) := by simp only [rnk, h, cond_true]; omega
theorem rnk_mono (l : Dir) {i : Nat} : ∀ k, rnk l i ≤ rnk l (i + k)
  | 0 => Nat.le_refl _
  | k + 1 => by
    have := rnk_mono l (i := i) k
    have e : i + (k + 1) = i + k + 1 := by omega
    rw [e]; simp only [rnk]
    cases usedE l ((i + k : Nat) : Int) <;> simp only [cond_true, cond_false] <;> omega
theorem rnk_inj {l : Dir} {i j : Nat} (hij : i < j) (hi : usedE l (i : Int) = true) : rnk l i < rnk l j := by
  have h1 := rnk_lt hi
  obtain ⟨k, rfl⟩ : ∃ k, j = i + 1 + k := ⟨j - (i + 1), by omega⟩
  have := rnk_mono l (i := i + 1) k
  omega
theorem acI_sub (d : GDisk) (l : Dir) : ∀ (k i : Nat), i + k ≤ d.Inodes.length → ∀ x ∈ acI d l i k, x ∈ d.Inodes
  | 0, i, _, x, hx => by simp [acI] at hx
  | k + 1, i, h, x, hx => by
    have ih := acI_sub d l k (i + 1) (by omega) x
    simp only [acI] at hx
    cases hu : usedE l (i : Int) with
    | false => rw [hu] at hx; exact ih hx
    | true =>
      rw [hu] at hx
      rcases List.mem_cons.1 hx with rfl | hx
      · have := List.drop_subset i d.Inodes; rw [getD_drop (d := dGInode) (show i < d.Inodes.length by omega)] at this; exact this (by simp)
      · exact ih hx
theorem valid_sync {d : GDisk} (h : valid d = true) (hD : d.Durable.length ≤ 1000000000) (L : Int) (hL : -1 ≤ L) : valid ⟨acI d (cur d).1 0 d.Inodes.length, (cur d).1.map (rnkE (cur d).1), [], L⟩ = true := by
  obtain ⟨h1, h2, h3, h4, h5, h6⟩ := valid_il h
  obtain ⟨f, t, hR⟩ := cur_rd h hD
  have hal := acI_len d (cur d).1 d.Inodes.length 0
  simp only [rnk, Nat.zero_add, Nat.add_zero] at hal
  have hrk := rnk_le (cur d).1 d.Inodes.length
  have hused : ∀ e ∈ (cur d).1, usedE (cur d).1 ((e.Inode.toNat : Nat) : Int) = true := fun e he => usedE_iff.2 ⟨e, he, by have := (hR.rng e he).1; omega⟩
  refine valid_of (by simp only; omega) (by simp) hL ?_ ?_ rfl
  · exact List.all_eq_true.2 fun x hx => List.all_eq_true.1 h4 x (acI_sub d _ _ _ (by omega) x hx)
  · refine durA_of (fun e he => ?_) ?_ (fun e he => ?_) (fun p q hpq hq => ?_)
    · obtain ⟨e0, he0, rfl⟩ := List.mem_map.1 he
      exact hR.nms e0 he0
    · exact List.pairwise_map.2 hR.srt
    · obtain ⟨e0, he0, rfl⟩ := List.mem_map.1 he
      obtain ⟨r1, r2⟩ := hR.rng e0 he0
      have := rnk_inj (show e0.Inode.toNat < d.Inodes.length by omega) (hused e0 he0)
      simp only [rnkE]
      constructor
      · omega
      · omega
    · simp only [List.length_map] at hq
      have g : ∀ {c : Nat}, c < (cur d).1.length → ((cur d).1.map (rnkE (cur d).1)).getD c dGDirEntry = rnkE (cur d).1 ((cur d).1.getD c dGDirEntry) := fun hc => by simp [List.getD, List.getElem?_eq_getElem hc]
      have hmp := getD_mem (show p < (cur d).1.length by omega)
      have hmq := getD_mem hq
      show (((cur d).1.map (rnkE (cur d).1)).getD p dGDirEntry).Inode ≠ (((cur d).1.map (rnkE (cur d).1)).getD q dGDirEntry).Inode
      rw [g (by omega), g hq]
      simp only [rnkE]
      intro hh
      have hne : ((cur d).1.getD p dGDirEntry).Inode ≠ ((cur d).1.getD q dGDirEntry).Inode := fun e => by
        have := srt_inj hR.srt (show p < (cur d).1.length by omega) hq (hR.ind _ hmp _ hmq e)
        omega
      have rp := (hR.rng _ hmp).1
      have rq := (hR.rng _ hmq).1
      rcases Nat.lt_trichotomy ((cur d).1.getD p dGDirEntry).Inode.toNat ((cur d).1.getD q dGDirEntry).Inode.toNat with c | c | c
      · have := rnk_inj c (hused _ hmp); omega
      · omega
      · have := rnk_inj c (hused _ hmq); omega

theorem fnd_lk {d : GDisk} {name : ByteArray} (h : (fnd d name).2 = 0) : valid d = true ∧ lkE name (cur d).1 = some (fnd d name).1 := by
  unfold fnd at *
  cases hv : valid d with
  | false => rw [hv] at h; simp at h
  | true =>
    rw [hv] at h
    simp only [cond_true] at *
    cases hl : lkE name (cur d).1 with
    | none => rw [hl] at h; simp at h
    | some i => exact ⟨trivial, rfl⟩
theorem extract_size (s : ByteArray) (n : Nat) (h : n ≤ s.size) : (ByteArray.extract s 0 n).size = n := by
  rw [ByteArray.size_extract]; omega

/-- Every operation that succeeds leaves a valid disk; the argument error is the invalid disk's alone. -/
theorem do_valid {d : GDisk} (a : Glookoutlaw22_Act) (hD : d.Durable.length ≤ 1000000000) : ((doF d a).2 = 0 ∨ (doF d a).2 = 19 → valid d = true ∧ valid (doF d a).1 = true) ∧ ((doF d a).2 = 1 ↔ valid d = false) := by
  have hno : ∀ {e : Int}, e ≠ 0 → e ≠ 19 → e ≠ 1 → valid d = true → ((no e).2 = 0 ∨ (no e).2 = 19 → valid d = true ∧ valid (no e).1 = true) ∧ ((no e).2 = 1 ↔ valid d = false) := fun h0 h1 h2 hv =>
    ⟨fun h => h.elim (fun h => absurd h h0) (fun h => absurd h h1), ⟨fun h => absurd h h2, fun h => by rw [hv] at h; cases h⟩⟩
  have hbad : valid d = false → ((no 1).2 = 0 ∨ (no 1).2 = 19 → valid d = true ∧ valid (no 1).1 = true) ∧ ((no 1).2 = 1 ↔ valid d = false) := fun hv =>
    ⟨fun h => (by rcases h with h | h <;> cases h), ⟨fun _ => hv, fun _ => rfl⟩⟩
  have hprf : ∀ {next : GDisk}, valid d = true → (∀ L, -1 ≤ L → valid ⟨next.Inodes, next.Durable, next.Pending, L⟩ = true) → ((prf d next).2 = 0 ∨ (prf d next).2 = 19 → valid d = true ∧ valid (prf d next).1 = true) ∧ ((prf d next).2 = 1 ↔ valid d = false) := fun {next} hv hn =>
    ⟨fun _ => ⟨hv, valid_prf hv hn⟩, ⟨fun h => (by unfold prf at h; split at h <;> cases h), fun h => by rw [hv] at h; cases h⟩⟩
  have hf : ∀ name, (fnd d name).2 ≠ 0 → ((no (fnd d name).2).2 = 0 ∨ (no (fnd d name).2).2 = 19 → valid d = true ∧ valid (no (fnd d name).2).1 = true) ∧ ((no (fnd d name).2).2 = 1 ↔ valid d = false) := fun name he => by
    cases hv : valid d with
    | false =>
      have : (fnd d name).2 = 1 := by simp [fnd, hv]
      rw [this]; have := hbad hv; rw [hv] at this; exact this
    | true =>
      have : (fnd d name).2 = 7 := by
        unfold fnd at he ⊢
        rw [hv] at he ⊢
        simp only [cond_true] at he ⊢
        cases hl : lkE name (cur d).1 with
        | none => rfl
        | some i => rw [hl] at he; simp at he
      rw [this]; have := hno (e := 7) (by omega) (by omega) (by omega) hv; rw [hv] at this; exact this
  unfold doF
  split
  · unfold crtF
    split
    · rename_i hv; exact hbad hv
    · rename_i hv
      have hv : valid d = true := by simpa using hv
      split
      · exact hno (by omega) (by omega) (by omega) hv
      · rename_i hnm
        split
        · exact hno (by omega) (by omega) (by omega) hv
        · rename_i hnn
          split
          · exact hno (by omega) (by omega) (by omega) hv
          · split
            · exact hno (by omega) (by omega) (by omega) hv
            · rename_i c1 c2
              refine hprf hv (fun L hL => valid_new hv (by omega) (by omega) ?_ L hL)
              obtain ⟨f, t, hR⟩ := cur_rd hv hD
              have hu : usedE (cur d).1 (d.Inodes.length : Int) = false := by
                cases hu : usedE (cur d).1 (d.Inodes.length : Int) with
                | false => rfl
                | true => obtain ⟨e, he, hh⟩ := usedE_iff.1 hu; have := (hR.rng e he).2; omega
              have e1 : isNm a.Name = true := by simpa using hnm
              have e2 : (lkE a.Name (cur d).1).isNone = true := by simpa using hnn
              simp only [ap, show ((1 : Int) == 1) = true by rfl, cond_true, e1, e2, hu, show ((d.Inodes.length : Int) ≥ 0) by omega, show ((d.Inodes.length : Int) < (d.Inodes.length : Int) + 1) by omega, decide_true, Bool.not_false, Bool.and_true]
  · split
    · unfold appF
      split
      · rename_i he; exact hf _ he
      · rename_i he
        have he : (fnd d a.Name).2 = 0 := by simpa using he
        obtain ⟨o1, o2, o3, o4, o5, o6⟩ := file_ok hD he
        obtain ⟨p1, p2, p3⟩ := okI_spec o1
        split
        · exact hno (by omega) (by omega) (by omega) (fnd_lk he).1
        · rename_i c
          refine hprf (fnd_lk he).1 (fun L hL => valid_chg (fnd_lk he).1 ?_ L hL)
          simp only [okI, ByteArray.size_append, show (file d a.Name).Data.size + a.Data.size ≤ 1048576 by omega, p2, show (file d a.Name).Synced ≤ (((file d a.Name).Data.size + a.Data.size : Nat) : Int) by omega, decide_true, Bool.and_true]
    · split
      · unfold synF
        split
        · rename_i he; exact hf _ he
        · rename_i he
          have he : (fnd d a.Name).2 = 0 := by simpa using he
          obtain ⟨o1, o2, o3, o4, o5, o6⟩ := file_ok hD he
          obtain ⟨p1, p2, p3⟩ := okI_spec o1
          refine hprf (fnd_lk he).1 (fun L hL => valid_chg (fnd_lk he).1 ?_ L hL)
          simp only [okI, p1, show (0 : Int) ≤ ((file d a.Name).Data.size : Int) by omega, show ((file d a.Name).Data.size : Int) ≤ ((file d a.Name).Data.size : Int) by omega, decide_true, Bool.and_true]
      · split
        · unfold sdF
          split
          · rename_i hv; exact hbad hv
          · rename_i hv
            have hv : valid d = true := by simpa using hv
            exact hprf hv (fun L hL => valid_sync hv hD L hL)
        · split
          · unfold renF
            split
            · rename_i he; exact hf _ he
            · rename_i he
              have he : (fnd d a.Name).2 = 0 := by simpa using he
              obtain ⟨hv, hl⟩ := fnd_lk he
              split
              · exact hno (by omega) (by omega) (by omega) hv
              · rename_i hnm
                split
                · exact hno (by omega) (by omega) (by omega) hv
                · rename_i hne
                  split
                  · exact hno (by omega) (by omega) (by omega) hv
                  · rename_i c
                    refine hprf hv (fun L hL => valid_pend hv (by omega) ?_ L hL)
                    have e1 : isNm a.To = true := by simpa using hnm
                    simp only [ap, hl, e1, hne, show ((2 : Int) == 1) = false by rfl, show ((2 : Int) == 2) = true by rfl, show ((0 : Int) != 0) = false by rfl, cond_true, cond_false, decide_false, Bool.not_false, Bool.and_true]
          · split
            · unfold remF
              split
              · rename_i he; exact hf _ he
              · rename_i he
                have he : (fnd d a.Name).2 = 0 := by simpa using he
                obtain ⟨hv, hl⟩ := fnd_lk he
                split
                · exact hno (by omega) (by omega) (by omega) hv
                · rename_i c
                  refine hprf hv (fun L hL => valid_pend hv (by omega) ?_ L hL)
                  simp only [ap, hl, show ((3 : Int) == 1) = false by rfl, show ((3 : Int) == 2) = false by rfl, show ((3 : Int) == 3) = true by rfl, show ((0 : Int) != 0) = false by rfl, cond_false, decide_true, Bool.and_true]
            · unfold truF
              split
              · rename_i he; exact hf _ he
              · rename_i he
                have he : (fnd d a.Name).2 = 0 := by simpa using he
                obtain ⟨o1, o2, o3, o4, o5, o6⟩ := file_ok hD he
                obtain ⟨p1, p2, p3⟩ := okI_spec o1
                split
                · exact hno (by omega) (by omega) (by omega) (fnd_lk he).1
                · split
                  · exact hno (by omega) (by omega) (by omega) (fnd_lk he).1
                  · rename_i c1 c2
                    refine hprf (fnd_lk he).1 (fun L hL => valid_chg (fnd_lk he).1 ?_ L hL)
                    have hsz := extract_size (file d a.Name).Data a.Size.toNat (by omega)
                    have hs1 : 0 ≤ (if a.Size < (file d a.Name).Synced then a.Size else (file d a.Name).Synced) := by split <;> omega
                    have hs2 : (if a.Size < (file d a.Name).Synced then a.Size else (file d a.Name).Synced) ≤ ((a.Size.toNat : Nat) : Int) := by split <;> omega
                    simp only [okI, hsz, show a.Size.toNat ≤ 1048576 by omega, hs1, hs2, decide_true, Bool.and_true]

/-! ### After a loss of power -/
theorem crI_get (d : GDisk) (picks : List Int) (l : Dir) : ∀ (k i j : Nat), j < k → (crI d picks l i k).getD j dGInode = ⟨ByteArray.extract (d.Inodes.getD (l.getD (i + j) dGDirEntry).Inode.toNat dGInode).Data 0 (kept d picks l (i + j)).toNat, kept d picks l (i + j)⟩
  | 0, _, _, h => by omega
  | k + 1, i, 0, _ => by simp [crI, List.getD]
  | k + 1, i, j + 1, h => by
    have := crI_get d picks l k (i + 1) j (by omega)
    rw [show i + (j + 1) = i + 1 + j by omega, ← this]
    simp [crI, List.getD]
theorem crD_get (l : Dir) : ∀ (k i j : Nat), j < k → (crD l i k).getD j dGDirEntry = ⟨(l.getD (i + j) dGDirEntry).Name, ((i + j : Nat) : Int)⟩
  | 0, _, _, h => by omega
  | k + 1, i, 0, _ => by simp [crD, List.getD]
  | k + 1, i, j + 1, h => by
    have := crD_get l k (i + 1) j (by omega)
    rw [show i + (j + 1) = i + 1 + j by omega, ← this]
    simp [crD, List.getD]
theorem get_mem {α : Type} {l : List α} {x : α} (d : α) (h : x ∈ l) : ∃ j, j < l.length ∧ l.getD j d = x := by
  obtain ⟨j, hj, he⟩ := List.getElem_of_mem h
  exact ⟨j, hj, by simp [List.getD, List.getElem?_eq_getElem hj, he]⟩
theorem crDir_Rd {d : GDisk} (picks : List Int) (hv : valid d = true) (hD : d.Durable.length ≤ 1000000000) : ∃ f t, Rd d.Inodes.length f t (crDir d picks) := by
  obtain ⟨i1, i2, i3, i4, i5, i6⟩ := valid_il hv
  obtain ⟨f, t, e1, hR⟩ := crDir_rd picks hv hD (d.Durable.length + 80) (by omega)
  have haft := aft_take (d.Inodes.length : Int) d.Pending d.Durable (crCount d picks) i6
  obtain ⟨f', t', _, hR'⟩ := crash_l0 2 d d.Inodes.length (d.Inodes.length, true, f, t) rfl (0, [], 0) [] [] (by omega) (d.Pending.take (crCount d picks)) (by rw [List.length_take]; omega) (d.Pending.take (crCount d picks)).length 0 ((d.Pending.take (crCount d picks)).length + 1) f t d.Durable (by omega) hR haft (by omega)
  rw [List.drop_zero] at hR'
  exact ⟨f', t', hR'⟩
theorem crF_valid {d : GDisk} (picks : List Int) (hv : valid d = true) (hD : d.Durable.length ≤ 1000000000) : valid (crF d picks) = true ∧ (crF d picks).Left = -1 ∧ (crF d picks).Pending = [] := by
  obtain ⟨i1, i2, i3, i4, i5, i6⟩ := valid_il hv
  obtain ⟨f, t, hR⟩ := crDir_Rd picks hv hD
  have hlb := hR.bound
  have hcf : crF d picks = ⟨crI d picks (crDir d picks) 0 (crDir d picks).length, crD (crDir d picks) 0 (crDir d picks).length, [], -1⟩ := by simp only [crF, hv, cond_true]
  have hgI := crI_len d picks (crDir d picks) (crDir d picks).length 0
  have hgD := crD_len (crDir d picks) (crDir d picks).length 0
  rw [hcf]
  refine ⟨valid_of (by simp only [hgI]; omega) (by simp) (by simp) ?_ ?_ rfl, rfl, rfl⟩
  · refine List.all_eq_true.2 fun x hx => ?_
    obtain ⟨j, hj, rfl⟩ := get_mem dGInode hx
    rw [hgI] at hj
    rw [crI_get d picks _ _ 0 j hj, Nat.zero_add]
    have hm := getD_mem hj
    obtain ⟨r1, r2⟩ := hR.rng _ hm
    have hok := inode_ok i4 r1 r2
    obtain ⟨o1, o2, o3⟩ := okI_spec hok
    obtain ⟨q1, q2⟩ := kept_in (picks := picks) hok
    have hsz := extract_size (d.Inodes.getD ((crDir d picks).getD j dGDirEntry).Inode.toNat dGInode).Data (kept d picks (crDir d picks) j).toNat (by omega)
    simp only [okI, hsz, show (kept d picks (crDir d picks) j).toNat ≤ 1048576 by omega, show 0 ≤ kept d picks (crDir d picks) j by omega, show kept d picks (crDir d picks) j ≤ (((kept d picks (crDir d picks) j).toNat : Nat) : Int) by omega, decide_true, Bool.and_true]
  · have hget : ∀ j, j < (crDir d picks).length → (crD (crDir d picks) 0 (crDir d picks).length).getD j dGDirEntry = ⟨((crDir d picks).getD j dGDirEntry).Name, (j : Int)⟩ := fun j hj => by rw [crD_get _ _ 0 j hj, Nat.zero_add]
    refine durA_of (fun e he => ?_) ?_ (fun e he => ?_) (fun p q hpq hq => ?_)
    · obtain ⟨j, hj, rfl⟩ := get_mem dGDirEntry he
      rw [hgD] at hj; rw [hget j hj]
      have := hR.nms _ (getD_mem hj); exact this
    · refine List.pairwise_iff_getElem.2 fun a b ha hb hab => ?_
      have h1 := hget a (by rw [hgD] at ha; exact ha)
      have h2 := hget b (by rw [hgD] at hb; exact hb)
      have g1 : (crD (crDir d picks) 0 (crDir d picks).length)[a] = ⟨((crDir d picks).getD a dGDirEntry).Name, (a : Int)⟩ := by rw [← h1]; simp [List.getD, List.getElem?_eq_getElem ha]
      have g2 : (crD (crDir d picks) 0 (crDir d picks).length)[b] = ⟨((crDir d picks).getD b dGDirEntry).Name, (b : Int)⟩ := by rw [← h2]; simp [List.getD, List.getElem?_eq_getElem hb]
      show ky ((crD (crDir d picks) 0 (crDir d picks).length)[a]).Name < ky ((crD (crDir d picks) 0 (crDir d picks).length)[b]).Name
      rw [g1, g2]
      exact srt_get hR.srt hab (by rw [hgD] at hb; exact hb)
    · obtain ⟨j, hj, rfl⟩ := get_mem dGDirEntry he
      rw [hgD] at hj; rw [hget j hj]
      simp only [hgI]; omega
    · simp only [hgD] at hq
      show ((crD (crDir d picks) 0 (crDir d picks).length).getD p dGDirEntry).Inode ≠ ((crD (crDir d picks) 0 (crDir d picks).length).getD q dGDirEntry).Inode
      rw [hget p (by omega), hget q hq]
      simp only; omega
theorem extract_all (s : ByteArray) (n : Nat) (h : s.size ≤ n) : ByteArray.extract s 0 n = s := by
  rw [ByteArray.ext_iff, ByteArray.data_extract]
  have : s.data.size ≤ n := h
  exact Array.extract_eq_self_of_le this
end Go.Proofs.Ytkignmhjbjgkoaa
