/- Plain laws of the log, seat Z: WalOpen. -/
import Derived.Test.YtkignmhjbjgkoaaGreatSq3
import Derived.Test.YtkignmhjbjgkoaaGreatSp10
set_option linter.unusedVariables false
set_option linter.unusedSimpArgs false
set_option maxRecDepth 100000
namespace Go.Proofs.YtkignmhjbjgkoaaGreat
open Go Go.AM

theorem awakeZ : lookoutlaw23_awake 29999 = some true := by kernel_rfl

/-! ### Sizes -/
theorem great_data0 (n : Nat) (d : GDisk) (hI : d.Inodes.length ≤ 1000000000) : ∀ (k i m : Nat) (s : Int), i + k = d.Inodes.length → lookoutref22_Great_l0 n d m s (i : Int) = some false → ∀ x ∈ d.Inodes.drop i, x.Data.size ≤ 20000
  | _, i, 0, _, _, h => by simp [lookoutref22_Great_l0] at h
  | 0, i, m + 1, s, h, _ => by rw [List.drop_eq_nil_of_le (by omega)]; intro x hx; simp at hx
  | k + 1, i, m + 1, s, h, h2 => by
    rw [getD_drop (d := dGInode) (show i < d.Inodes.length by omega)]
    generalize hx : d.Inodes.getD i dGInode = x at *
    simp only [lookoutref22_Great_l0, show (i : Int) < (d.Inodes.length : Int) by omega, show (0 : Int) ≤ (i : Int) by omega, decide_true, Bool.and_true, cond_true, toNat_c, wr1 i (by omega), hx] at h2
    by_cases c1 : (x.Data.size : Int) > 20000
    · simp only [c1, decide_true, cond_true] at h2; simp at h2
    · simp only [c1, decide_false, cond_false] at h2
      have ih := great_data0 n d hI k (i + 1) m _ (by omega) h2
      intro y hy
      rcases List.mem_cons.1 hy with rfl | hy
      · omega
      · exact ih y hy
theorem great_data (n : Nat) (d : GDisk) (h : lookoutref22_Great n d = some false) : ∀ x ∈ d.Inodes, x.Data.size ≤ 20000 := by
  cases n with
  | zero => simp [lookoutref22_Great] at h
  | succ n =>
    simp only [lookoutref22_Great] at h
    by_cases c1 : (d.Inodes.length : Int) > 40
    · simp only [c1, decide_true, cond_true] at h; simp at h
    · by_cases c2 : (d.Durable.length : Int) > 40
      · simp only [c1, c2, decide_true, decide_false, cond_true, cond_false] at h; simp at h
      · by_cases c3 : (d.Pending.length : Int) > 40
        · simp only [c1, c2, c3, decide_true, decide_false, cond_true, cond_false] at h; simp at h
        · simp only [c1, c2, c3, decide_false, cond_false] at h
          have := great_data0 n d (by omega) d.Inodes.length 0 n 0 (by omega) h
          simpa using this
theorem rdF_size {d : GDisk} {name : ByteArray} (h : ∀ x ∈ d.Inodes, x.Data.size ≤ 20000) : (rdF d name).1.size ≤ 20000 := by
  unfold rdF
  cases (fnd d name).2 == 0 with
  | false => exact Nat.zero_le _
  | true =>
    simp only [cond_true]
    rcases Nat.lt_or_ge (fnd d name).1.toNat d.Inodes.length with hi | hi
    · have : d.Inodes.getD (fnd d name).1.toNat dGInode = d.Inodes[(fnd d name).1.toNat] := by simp [List.getD, hi]
      rw [this]; exact h _ (List.getElem_mem hi)
    · have : d.Inodes.getD (fnd d name).1.toNat dGInode = dGInode := by simp [List.getD, List.getElem?_eq_none hi]
      rw [this]; exact Nat.zero_le _
theorem out_crt {c : Nat} {d : GDisk} {name : ByteArray} (h : Bg c d) : Out c d (crtF d name) := by
  have hil := h.il; have hdl := h.dl
  have hb : bE.size = 0 := rfl
  unfold crtF
  split
  · exact out_no (by omega) (by omega)
  · split
    · exact out_no (by omega) (by omega)
    · split
      · exact out_no (by omega) (by omega)
      · split
        · exact out_no (by omega) (by omega)
        · split
          · exact out_no (by omega) (by omega)
          · rename_i hn _ _ _
            have := isNm_size (s := name) (by simpa using hn)
            exact out_prf (bg_pend h (by simp only [hb]; omega) (by simp; omega))
theorem out_sd {c : Nat} {d : GDisk} (h : Bg c d) (hD : c ≤ 1000000) : Out c d (sdF d) := by
  have hil := h.il; have hdl := h.dl
  unfold sdF
  split
  · exact out_no (by omega) (by omega)
  · rename_i hv
    have hv : valid d = true := by simpa using hv
    obtain ⟨f, t, hR⟩ := cur_rd hv (by omega)
    have hl : (cur d).1.length ≤ d.Durable.length + d.Pending.length := aft_len _ _ _
    have hal := acI_len d (cur d).1 d.Inodes.length 0
    have hrk := rnk_le (cur d).1 (0 + d.Inodes.length)
    refine out_prf ⟨fun e he => ?_, fun x hx => by simp at hx, by simp; omega, by simp only; omega⟩
    obtain ⟨e0, he0, rfl⟩ := List.mem_map.1 he
    have := isNm_size (hR.nms e0 he0)
    simp only [rnkE]; omega
theorem out_tru {c : Nat} {d : GDisk} {name : ByteArray} {z : Int} (h : Bg c d) : Out c d (truF d name z) := by
  unfold truF
  split
  · rename_i e; exact out_fnd e
  · split
    · exact out_no (by omega) (by omega)
    · split
      · exact out_no (by omega) (by omega)
      · exact out_prf (bg_chg h)
theorem out_syn {c : Nat} {d : GDisk} {name : ByteArray} (h : Bg c d) : Out c d (synF d name) := by
  unfold synF
  split
  · rename_i e; exact out_fnd e
  · exact out_prf (bg_chg h)
theorem out_next {c : Nat} {d : GDisk} {r : GDisk × Int} (h : Out c d r) (h0 : r.2 = 0) (hw : Lw d) : Bg (c + 1) r.1 ∧ Lw r.1 := by
  obtain ⟨h1, h2, h3⟩ := h.ok h0
  have w1 := hw.lo; have w2 := hw.hi
  refine ⟨h3, ?_, ?_⟩ <;> rw [h2] <;> split <;> omega

/-! ### What both return -/
def zW : GWal := ⟨⟨[], [], [], 0⟩, bE, 0, []⟩
def failF (r : GDisk × Int) : GWal × Int := if r.2 = 19 then (⟨r.1, bE, 0, []⟩, r.2) else (zW, r.2)
def wcF (d : GDisk) (name : ByteArray) : GWal × Int :=
  if (crtF d name).2 ≠ 0 then failF (crtF d name) else if (sdF (crtF d name).1).2 ≠ 0 then failF (sdF (crtF d name).1) else (⟨(sdF (crtF d name).1).1, name, 0, []⟩, 0)
def woF (d : GDisk) (name : ByteArray) : GWal × Int :=
  if (rdF d name).2 ≠ 0 then (zW, (rdF d name).2) else
  let s := (rdF d name).1
  if extent (ky s) < s.size then
    (let t := truF d name (extent (ky s))
     if t.2 ≠ 0 then failF t else if (synF t.1 name).2 ≠ 0 then failF (synF t.1 name) else (⟨(synF t.1 name).1, name, extent (ky s), recs (ky s)⟩, 0))
  else (⟨d, name, extent (ky s), recs (ky s)⟩, 0)
theorem fail_d (n : Nat) (r : GDisk × Int) (hn : 1 ≤ n) : wal_failed n r.1 r.2 = some (failF r) := by
  obtain ⟨m, rfl⟩ : ∃ m, n = m + 1 := ⟨n - 1, by omega⟩
  simp only [wal_failed, failF]
  by_cases h : r.2 = 19
  · rw [if_pos h, show (r.2 == 19) = true by simpa using h]; rfl
  · rw [if_neg h, show (r.2 == 19) = false by simpa using h]; rfl
theorem fail_r (n : Nat) (r : GDisk × Int) (hn : 1 ≤ n) : lookoutref23_failed n r.1 r.2 = some (failF r) := by
  obtain ⟨m, rfl⟩ : ∃ m, n = m + 1 := ⟨n - 1, by omega⟩
  simp only [lookoutref23_failed, failF]
  by_cases h : r.2 = 19
  · rw [if_pos h, show (r.2 == 19) = true by simpa using h]; rfl
  · rw [if_neg h, show (r.2 == 19) = false by simpa using h]; rfl
theorem ne0 {x : Int} (h : x ≠ 0) : (x != 0) = true := by simpa using h
theorem eq0 {x : Int} (h : x = 0) : (x != 0) = false := by subst h; rfl
theorem create_wd (n : Nat) (d : GDisk) (name : ByteArray) (h : Bg 80 d) (hw : Lw d) (hn : 5000 ≤ n) : wal_Create n d name = some (wcF d name) := by
  obtain ⟨m, rfl⟩ : ∃ m, n = m + 6 := ⟨n - 6, by omega⟩
  have hb := h.bd (by omega)
  simp only [wal_Create]
  rw [check_eq _ 200 d hb (by omega)]
  simp only [Option.bind_some]
  cases hv : valid d with
  | false =>
    have hc : crtF d name = no 1 := by unfold crtF; rw [if_pos hv]
    unfold wcF
    rw [hc]; rfl
  | true =>
    simp only [cond_true, show ((0 : Int) != 0) = false by rfl, cond_false, wal_run_v2, wal_Create_c1]
    rw [create_f _ 200 d name hb hw (by omega)]
    simp only [Option.bind_some]
    unfold wcF
    by_cases e : (crtF d name).2 = 0
    · obtain ⟨g1, g2⟩ := out_next (out_crt (name := name) h) e hw
      rw [eq0 e, if_neg (fun h => h e)]
      simp only [cond_false]
      rw [syncdir_f _ 200 _ (g1.bd (by omega)) g2 (by omega)]
      simp only [Option.bind_some]
      by_cases e2 : (sdF (crtF d name).1).2 = 0
      · rw [eq0 e2, if_neg (fun h => h e2)]; rfl
      · rw [ne0 e2, if_pos e2]
        simp only [cond_true, Option.bind_some]
        rw [ne0 e2]
        simp only [cond_true]
        rw [fail_d _ _ (by omega)]; rfl
    · rw [ne0 e, if_pos e]
      simp only [cond_true, Option.bind_some]
      rw [ne0 e]
      simp only [cond_true]
      rw [fail_d _ _ (by omega)]; rfl
theorem create_wr (n : Nat) (d : GDisk) (name : ByteArray) (h : Bg 80 d) (hw : Lw d) (hs : name.size ≤ 100) (hn : 5000 ≤ n) : lookoutref23_Create n d name = some (wcF d name) := by
  obtain ⟨m, rfl⟩ : ∃ m, n = m + 6 := ⟨n - 6, by omega⟩
  have hb := h.bd (by omega)
  simp only [lookoutref23_Create]
  rw [create_r _ 200 d name hb hw (by omega) (by omega) (by omega)]
  simp only [Option.bind_some]
  unfold wcF
  by_cases e : (crtF d name).2 = 0
  · obtain ⟨g1, g2⟩ := out_next (out_crt (name := name) h) e hw
    rw [eq0 e, if_neg (fun h => h e)]
    simp only [cond_false]
    rw [syncdir_r _ 200 _ (g1.bd (by omega)) g2 (by omega)]
    simp only [Option.bind_some]
    by_cases e2 : (sdF (crtF d name).1).2 = 0
    · rw [eq0 e2, if_neg (fun h => h e2)]; rfl
    · rw [ne0 e2, if_pos e2]
      simp only [cond_true]
      rw [fail_r _ _ (by omega)]; rfl
  · rw [ne0 e, if_pos e]
    simp only [cond_true]
    rw [fail_r _ _ (by omega)]; rfl
theorem open_wd (n : Nat) (d : GDisk) (name : ByteArray) (h : Bg 80 d) (hw : Lw d) (hd : ∀ x ∈ d.Inodes, x.Data.size ≤ 20000) (hn : 25000 ≤ n) : wal_Open n d name = some (woF d name) := by
  obtain ⟨m, rfl⟩ : ∃ m, n = m + 6 := ⟨n - 6, by omega⟩
  have hb := h.bd (by omega)
  have hz := rdF_size (name := name) hd
  simp only [wal_Open]
  rw [read_d _ 200 d name hb (by omega)]
  simp only [Option.bind_some]
  unfold woF
  by_cases e : (rdF d name).2 = 0
  · rw [eq0 e, if_neg (fun h => h e), Scan_eq _ _ (by omega) (by omega)]
    simp only [cond_false, Option.bind_some]
    by_cases l : extent (ky (rdF d name).1) < (rdF d name).1.size
    · rw [if_pos l, decide_eq_true (show (extent (ky (rdF d name).1) : Int) < ((rdF d name).1.size : Int) by omega)]
      simp only [cond_true, wal_run, wal_Open_c1]
      rw [truncate_f _ 200 d name _ hb hw (by omega)]
      simp only [Option.bind_some]
      generalize extent (ky (rdF d name).1) = z at *
      by_cases e1 : (truF d name z).2 = 0
      · obtain ⟨g1, g2⟩ := out_next (out_tru (name := name) (z := z) h) e1 hw
        rw [eq0 e1, if_neg (fun h => h e1)]
        simp only [cond_false, wal_Open_c2]
        rw [sync_f _ 200 _ name (g1.bd (by omega)) g2 (by omega)]
        simp only [Option.bind_some]
        by_cases e2 : (synF (truF d name z).1 name).2 = 0
        · rw [eq0 e2, if_neg (fun h => h e2)]; rfl
        · rw [ne0 e2, if_pos e2]
          simp only [cond_true, Option.bind_some]
          rw [ne0 e2]
          simp only [cond_true]
          rw [fail_d _ _ (by omega)]; rfl
      · rw [ne0 e1, if_pos e1]
        simp only [cond_true, Option.bind_some]
        rw [ne0 e1]
        simp only [cond_true]
        rw [fail_d _ _ (by omega)]; rfl
    · rw [if_neg l, decide_eq_false (show ¬ (extent (ky (rdF d name).1) : Int) < ((rdF d name).1.size : Int) by omega)]
      simp only [cond_false, wal_run_v1, Option.bind_some]
      rfl
  · rw [ne0 e, if_pos e]; rfl
theorem open_wr (n : Nat) (d : GDisk) (name : ByteArray) (h : Bg 80 d) (hw : Lw d) (hd : ∀ x ∈ d.Inodes, x.Data.size ≤ 20000) (hn : 25000 ≤ n) : lookoutref23_Open n d name = some (woF d name) := by
  obtain ⟨m, rfl⟩ : ∃ m, n = m + 6 := ⟨n - 6, by omega⟩
  have hb := h.bd (by omega)
  have hz := rdF_size (name := name) hd
  simp only [lookoutref23_Open]
  rw [read_r _ 200 d name hb (by omega)]
  simp only [Option.bind_some]
  unfold woF
  by_cases e : (rdF d name).2 = 0
  · rw [eq0 e, if_neg (fun h => h e), rScan_eq _ _ (by omega) (by omega)]
    simp only [cond_false, Option.bind_some]
    by_cases l : extent (ky (rdF d name).1) < (rdF d name).1.size
    · rw [if_pos l, decide_eq_true (show (extent (ky (rdF d name).1) : Int) < ((rdF d name).1.size : Int) by omega)]
      simp only [cond_true]
      rw [truncate_r _ 200 d name _ hb hw (by omega)]
      simp only [Option.bind_some]
      generalize extent (ky (rdF d name).1) = z at *
      by_cases e1 : (truF d name z).2 = 0
      · obtain ⟨g1, g2⟩ := out_next (out_tru (name := name) (z := z) h) e1 hw
        rw [eq0 e1, if_neg (fun h => h e1)]
        simp only [cond_false]
        rw [sync_r _ 200 _ name (g1.bd (by omega)) g2 (by omega)]
        simp only [Option.bind_some]
        by_cases e2 : (synF (truF d name z).1 name).2 = 0
        · rw [eq0 e2, if_neg (fun h => h e2)]; rfl
        · rw [ne0 e2, if_pos e2]
          simp only [cond_true]
          rw [fail_r _ _ (by omega)]; rfl
      · rw [ne0 e1, if_pos e1]
        simp only [cond_true]
        rw [fail_r _ _ (by omega)]; rfl
    · rw [if_neg l, decide_eq_false (show ¬ (extent (ky (rdF d name).1) : Int) < ((rdF d name).1.size : Int) by omega)]
      simp only [cond_false, lookoutref23_Open_s0]
  · rw [ne0 e, if_pos e]; rfl

/-! ### The same -/
theorem gd (l : List ByteArray) (i : Nat) (h : i < l.length) : l.getD i bE = l[i] := by simp [List.getD, h]
theorem sstr_l0 (n : Nat) (a : List ByteArray) (ha : a.length < 1000000000) : ∀ (k i m : Nat), i + k = a.length → k < m → lookoutref23_SameStrings_l0 n a a m (i : Int) = some true
  | _, i, 0, h, hk => by omega
  | 0, i, m + 1, h, hk => by
    simp only [lookoutref23_SameStrings_l0]
    rw [decide_eq_false (show ¬ (i : Int) < (a.length : Int) by omega)]; rfl
  | k + 1, i, m + 1, h, hk => by
    simp only [lookoutref23_SameStrings_l0]
    rw [dec_in i a.length (by omega), decide_eq_true (show (i : Int) < (a.length : Int) by omega), sNe_eq, decide_eq_true rfl, wr1 i (by omega)]
    simp only [cond_true, Bool.not_true, cond_false]
    exact sstr_l0 n a ha k (i + 1) m (by omega) (by omega)
theorem sameW (n : Nat) (w : GWal) (h1 : w.Disk.Pending.length ≤ 1000) (h2 : w.Disk.Durable.length ≤ 1000) (h3 : w.Disk.Inodes.length ≤ 1000) (h4 : w.Records.length ≤ 20000) (hn : 25000 ≤ n) (hn2 : n ≤ 1000000000) : lookoutref23_Same n w w = some true := by
  obtain ⟨m, rfl⟩ : ∃ m, n = m + 2 := ⟨n - 2, by omega⟩
  simp only [lookoutref23_Same]
  rw [show (⟨w.Disk.Inodes, w.Disk.Durable, w.Disk.Pending, w.Disk.Left⟩ : GDisk) = w.Disk from rfl, same_refl _ w.Disk (by omega) (by omega) (by omega) (by omega), sEq_eq, decide_eq_true rfl]
  simp only [Option.bind_some, cond_true, beq_self_eq_true, lookoutref23_SameStrings, bne_self_eq_false, cond_false]
  rw [show lookoutref23_SameStrings_l0 m w.Records w.Records m 0 = some true from sstr_l0 m w.Records (by omega) w.Records.length 0 m (by omega) (by omega)]
  rfl
def Mid (w : GWal) : Prop := w.Disk.Pending.length ≤ 1000 ∧ w.Disk.Durable.length ≤ 1000 ∧ w.Disk.Inodes.length ≤ 1000 ∧ w.Records.length ≤ 20000
theorem mid_fail {c : Nat} {d : GDisk} {r : GDisk × Int} (h : Out c d r) (hd : Bg c d) (hc : c ≤ 900) : Mid (failF r).1 := by
  obtain ⟨h1, h2, h3⟩ := out_len h hd
  unfold failF
  split
  · exact ⟨by show r.1.Pending.length ≤ _; omega, by show r.1.Durable.length ≤ _; omega, by show r.1.Inodes.length ≤ _; omega, Nat.zero_le _⟩
  · exact ⟨Nat.zero_le _, Nat.zero_le _, Nat.zero_le _, Nat.zero_le _⟩
theorem recs_le (l : List UInt8) : (recs l).length ≤ l.length := by
  have := scanL_le (l.length + 1) l
  unfold recs; rw [List.length_map]; omega
theorem mid_c (d : GDisk) (name : ByteArray) (h : Bg 80 d) (hw : Lw d) : Mid (wcF d name).1 := by
  unfold wcF
  have o1 := out_crt (name := name) h
  by_cases e : (crtF d name).2 = 0
  · rw [if_neg (fun h => h e)]
    obtain ⟨g1, g2⟩ := out_next o1 e hw
    have o2 := out_sd g1 (by omega)
    by_cases e2 : (sdF (crtF d name).1).2 = 0
    · rw [if_neg (fun h => h e2)]
      obtain ⟨h1, h2, h3⟩ := out_len o2 g1
      exact ⟨by show (sdF (crtF d name).1).1.Pending.length ≤ _; omega, by show (sdF (crtF d name).1).1.Durable.length ≤ _; omega, by show (sdF (crtF d name).1).1.Inodes.length ≤ _; omega, Nat.zero_le _⟩
    · rw [if_pos e2]; exact mid_fail o2 g1 (by omega)
  · rw [if_pos e]; exact mid_fail o1 h (by omega)
theorem mid_o (d : GDisk) (name : ByteArray) (h : Bg 80 d) (hw : Lw d) (hd : ∀ x ∈ d.Inodes, x.Data.size ≤ 20000) : Mid (woF d name).1 := by
  have hz := rdF_size (name := name) hd
  have hr := recs_le (ky (rdF d name).1)
  rw [ky_len] at hr
  unfold woF
  by_cases e : (rdF d name).2 = 0
  · rw [if_neg (fun h => h e)]
    simp only
    generalize extent (ky (rdF d name).1) = z at *
    by_cases l : z < (rdF d name).1.size
    · rw [if_pos l]
      have o1 := out_tru (name := name) (z := z) h
      by_cases e1 : (truF d name z).2 = 0
      · rw [if_neg (fun h => h e1)]
        obtain ⟨g1, g2⟩ := out_next o1 e1 hw
        have o2 := out_syn (name := name) g1
        by_cases e2 : (synF (truF d name z).1 name).2 = 0
        · rw [if_neg (fun h => h e2)]
          obtain ⟨h1, h2, h3⟩ := out_len o2 g1
          exact ⟨by show (synF (truF d name z).1 name).1.Pending.length ≤ _; omega, by show (synF (truF d name z).1 name).1.Durable.length ≤ _; omega, by show (synF (truF d name z).1 name).1.Inodes.length ≤ _; omega, by show (recs _).length ≤ _; omega⟩
        · rw [if_pos e2]; exact mid_fail o2 g1 (by omega)
      · rw [if_pos e1]; exact mid_fail o1 h (by omega)
    · rw [if_neg l]
      have h1 := h.dl; have h2 := h.il
      exact ⟨by show d.Pending.length ≤ _; omega, by show d.Durable.length ≤ _; omega, by show d.Inodes.length ≤ _; omega, by show (recs _).length ≤ _; omega⟩
  · rw [if_pos e]
    exact ⟨Nat.zero_le _, Nat.zero_le _, Nat.zero_le _, Nat.zero_le _⟩
theorem walOpen_law (d : GDisk) (name : ByteArray) (hwf : wfGDisk d) : ∃ n, lookoutlaw23_WalOpen n d name = some true := by
  refine ⟨30000, ?_⟩
  have hw := lw_of hwf
  obtain ⟨b, g1, g2⟩ := great_eq 29999 d (by omega) (by omega)
  show lookoutlaw23_WalOpen (29999 + 1) d name = _
  simp only [lookoutlaw23_WalOpen]
  rw [g1]
  simp only [Option.bind_some]
  cases b with
  | true => rw [awakeZ]; rfl
  | false =>
    obtain ⟨hb, h1, h2, h3⟩ := g2 rfl
    have h := bg_of hb h1 h2 h3
    have hd := great_data 29999 d g1
    simp only [cond_false]
    by_cases hs : name.size ≤ 100
    · rw [decide_eq_false (show ¬ (name.size : Int) > 100 by omega), create_wd _ d name h hw (by omega), create_wr _ d name h hw hs (by omega), open_wd _ d name h hw hd (by omega), open_wr _ d name h hw hd (by omega)]
      obtain ⟨m1, m2, m3, m4⟩ := mid_c d name h hw
      obtain ⟨q1, q2, q3, q4⟩ := mid_o d name h hw hd
      simp only [cond_false, Option.bind_some]
      rw [sameW 29999 (wcF d name).1 m1 m2 m3 m4 (by omega) (by omega), sameW 29999 (woF d name).1 q1 q2 q3 q4 (by omega) (by omega), awakeZ]
      simp only [Option.bind_some, cond_true, beq_self_eq_true]
    · rw [decide_eq_true (show (name.size : Int) > 100 by omega), awakeZ]; rfl
end Go.Proofs.YtkignmhjbjgkoaaGreat
