/- Plain laws of the log: WalAppend, the law. -/
import Derived.Test.YtkignmhjbjgkoaaSq6
import Derived.Test.YtkignmhjbjgkoaaWf
set_option linter.unusedVariables false
set_option linter.unusedSimpArgs false
set_option maxRecDepth 100000
namespace Go.Proofs.Ytkignmhjbjgkoaa
open Go Go.AM

def zW : GWal := ⟨⟨[], [], [], 0⟩, bE, 0, []⟩
def fS (l : List ByteArray) : ByteArray := bs (frms (l.map ky))
theorem fS_size (l : List ByteArray) : (fS l).size = (frms (l.map ky)).length := bs_size _
def finF (w : GWal) (l : List ByteArray) : GWal × Int :=
  let A := appF w.Disk w.Name (fS l)
  if A.2 ≠ 0 then (⟨A.1, w.Name, w.Size, w.Records⟩, A.2) else
  let B := synF A.1 w.Name
  if B.2 ≠ 0 then (⟨B.1, w.Name, w.Size, w.Records⟩, B.2) else (⟨B.1, w.Name, IntKind.wrap .i64 (w.Size + ((fS l).size : Int)), w.Records ++ l⟩, 0)
structure Can (w : GWal) (l : List ByteArray) : Prop where
  bg : Bg 80 w.Disk
  lw : Lw w.Disk
  dt : ∀ x ∈ w.Disk.Inodes, x.Data.size ≤ 20000
  rc : Few w.Records
  few : Few l
  ok : chkF w = 0
theorem chk_ok {w : GWal} (h : chkF w = 0) : (fnd w.Disk w.Name).2 = 0 ∧ w.Size = ((file w.Disk w.Name).Data.size : Int) := by
  unfold chkF at h
  by_cases c : (rdF w.Disk w.Name).2 = 0 ∧ w.Size = ((rdF w.Disk w.Name).1.size : Int) ∧ ky (rdF w.Disk w.Name).1 = frms (w.Records.map ky)
  · obtain ⟨h1, h2, _⟩ := c
    by_cases e : (fnd w.Disk w.Name).2 = 0
    · refine ⟨e, h2.trans ?_⟩
      unfold rdF
      rw [show ((fnd w.Disk w.Name).2 == 0) = true by simpa using e]
      rfl
    · unfold rdF at h1
      rw [show ((fnd w.Disk w.Name).2 == 0) = false by simpa using e] at h1
      exact absurd h1 e
  · rw [if_neg c] at h; omega
theorem fnd_file {d : GDisk} {name : ByteArray} {x : GInode} {L : Int} (hD : d.Durable.length ≤ 1000000000) (h : (fnd d name).2 = 0) (hx : okI x = true) (hL : -1 ≤ L) : (fnd ⟨d.Inodes.set (ino d name) x, d.Durable, d.Pending, L⟩ name).2 = 0 := by
  obtain ⟨hv, _⟩ := fnd_in hD h
  have hv2 := valid_chg (i := ino d name) hv hx L hL
  have hc : cur ⟨d.Inodes.set (ino d name) x, d.Durable, d.Pending, L⟩ = cur d := by unfold cur; simp
  unfold fnd at h ⊢
  rw [hv] at h
  rw [hv2, hc]
  exact h
theorem prf_2 (d next : GDisk) : (prf d next).2 = 19 ∨ (prf d next).2 = 0 := by
  unfold prf
  by_cases h : d.Left = 0
  · rw [if_pos h]; exact .inl rfl
  · rw [if_neg h]; exact .inr rfl
/-- What can go wrong: the power alone. -/
theorem app_case {w : GWal} {l : List ByteArray} (h : Can w l) : ((appF w.Disk w.Name (fS l)).2 = 19 ∨ (appF w.Disk w.Name (fS l)).2 = 0 ∧ ((synF (appF w.Disk w.Name (fS l)).1 w.Name).2 = 19 ∨ (synF (appF w.Disk w.Name (fS l)).1 w.Name).2 = 0)) ∧
    ((appF w.Disk w.Name (fS l)).2 = 0 → Bg 81 (appF w.Disk w.Name (fS l)).1 ∧ Lw (appF w.Disk w.Name (fS l)).1) := by
  obtain ⟨h1, h2⟩ := chk_ok h.ok
  have hdl := h.bg.dl
  obtain ⟨o1, o2, o3, o4, o5, o6⟩ := file_ok (by omega) h1
  obtain ⟨p1, p2, p3⟩ := okI_spec o1
  have hfl := frms_few l h.few.1
  have hll := h.few.2
  have hfs := fS_size l
  obtain ⟨hv, _⟩ := fnd_in (by omega) h1
  obtain ⟨i1, i2, i3, i4, i5, i6⟩ := valid_il hv
  have hdz : (file w.Disk w.Name).Data.size ≤ 20000 := by
    refine h.dt _ ?_
    have hb : ino w.Disk w.Name < w.Disk.Inodes.length := o2
    have : file w.Disk w.Name = w.Disk.Inodes[ino w.Disk w.Name] := by unfold file; simp [List.getD, hb]
    rw [this]; exact List.getElem_mem hb
  have hA : appF w.Disk w.Name (fS l) = prf w.Disk (chg w.Disk (ino w.Disk w.Name) ⟨(file w.Disk w.Name).Data ++ fS l, (file w.Disk w.Name).Synced⟩) := by
    unfold appF
    rw [if_neg (fun e => e h1), if_neg (by omega)]
  have hok : okI ⟨(file w.Disk w.Name).Data ++ fS l, (file w.Disk w.Name).Synced⟩ = true := by
    simp only [okI, ByteArray.size_append, Bool.and_eq_true, decide_eq_true_eq]
    omega
  rw [hA]
  by_cases c : w.Disk.Left = 0
  · have : (prf w.Disk (chg w.Disk (ino w.Disk w.Name) ⟨(file w.Disk w.Name).Data ++ fS l, (file w.Disk w.Name).Synced⟩)).2 = 19 := by unfold prf; rw [if_pos c]
    exact ⟨.inl this, fun e => by rw [this] at e; omega⟩
  · have e1 : prf w.Disk (chg w.Disk (ino w.Disk w.Name) ⟨(file w.Disk w.Name).Data ++ fS l, (file w.Disk w.Name).Synced⟩) = (⟨w.Disk.Inodes.set (ino w.Disk w.Name) ⟨(file w.Disk w.Name).Data ++ fS l, (file w.Disk w.Name).Synced⟩, w.Disk.Durable, w.Disk.Pending, if w.Disk.Left > 0 then w.Disk.Left - 1 else w.Disk.Left⟩, 0) := by unfold prf; rw [if_neg c]; rfl
    rw [e1]
    have hL := left_ok c i3
    refine ⟨.inr ⟨rfl, ?_⟩, fun _ => ⟨⟨h.bg.dn, h.bg.pn, by show w.Disk.Durable.length + w.Disk.Pending.length ≤ 81; omega, by have := h.bg.il; simp only [List.length_set]; omega⟩, ⟨by have q1 := h.lw.lo; show -9223372036854775808 ≤ (if w.Disk.Left > 0 then w.Disk.Left - 1 else w.Disk.Left); split <;> omega, by have q1 := h.lw.hi; show (if w.Disk.Left > 0 then w.Disk.Left - 1 else w.Disk.Left) ≤ 9223372036854775807; split <;> omega⟩⟩⟩
    have hf := fnd_file (name := w.Name) (by omega) h1 hok hL
    unfold synF
    rw [if_neg (fun e => e hf)]
    exact prf_2 _ _
theorem s7_eq (n : Nat) (w : GWal) (l : List ByteArray) (h : Can w l) (h1 : 1 ≤ (fS l).size) (hn : 10000 ≤ n) : wal_Append_s7 n l w (fS l) = some (finF w l) := by
  obtain ⟨m, rfl⟩ : ∃ m, n = m + 5 := ⟨n - 5, by omega⟩
  have hfl := frms_few l h.few.1
  have hll := h.few.2
  have hrl := h.rc.2
  have hfs := fS_size l
  obtain ⟨hc, hg⟩ := app_case h
  have hclip : slices_Clip_75 (m + 5) w.Records = some w.Records := by
    simp only [slices_Clip_75]
    rw [dec3z w.Records.length w.Records.length (by omega)]
    simp
  have hroom : (true && (decide ((w.Records.length + l.length) * 16 ≤ 140737488355328) && decide (w.Records.length + l.length ≤ 9223372036854775807))) = true := by
    rw [decide_eq_true (show (w.Records.length + l.length) * 16 ≤ 140737488355328 by omega), decide_eq_true (show w.Records.length + l.length ≤ 9223372036854775807 by omega)]; rfl
  simp only [wal_Append_s7, wal_run_v2, wal_Append_c1]
  rw [show (⟨w.Disk.Inodes, w.Disk.Durable, w.Disk.Pending, w.Disk.Left⟩ : GDisk) = w.Disk from rfl, decide_eq_true h1, append_f _ 200 _ _ _ (h.bg.bd (by omega)) h.lw (by omega) (by omega)]
  simp only [cond_true, Option.bind_some]
  unfold finF
  rcases hc with e | ⟨e, e2⟩
  · simp only [e]
    rfl
  · obtain ⟨g1, g2⟩ := hg e
    simp only [e]
    rw [show ((0 : Int) != 0) = false from rfl]
    simp only [cond_false, wal_Append_c2]
    rw [sync_f _ 200 _ _ (g1.bd (by omega)) g2 (by omega)]
    simp only [Option.bind_some]
    rcases e2 with e2 | e2
    · simp only [e2]
      rfl
    · simp only [e2]
      rw [show ((0 : Int) != 0) = false from rfl, if_neg (by simp), if_neg (by simp)]
      simp only [cond_false, Option.bind_some]
      rw [show ((0 : Int) == 19) = false from rfl, hclip]
      simp only [cond_false, Option.bind_some]
      rw [show ((0 : Int) != 0) = false from rfl, hroom]
      rfl
theorem s3_eq (n : Nat) (w : GWal) (l : List ByteArray) (h : Can w l) (hn : 10000 ≤ n) : lookoutref23_Append_s3 n l w (fS l) = some (finF w l) := by
  have hfl := frms_few l h.few.1
  have hll := h.few.2
  have hrl := h.rc.2
  have hfs := fS_size l
  obtain ⟨hc, hg⟩ := app_case h
  have hroom : (true && (decide ((w.Records.length + l.length) * 16 ≤ 140737488355328) && decide (w.Records.length + l.length ≤ 9223372036854775807))) = true := by
    rw [decide_eq_true (show (w.Records.length + l.length) * 16 ≤ 140737488355328 by omega), decide_eq_true (show w.Records.length + l.length ≤ 9223372036854775807 by omega)]; rfl
  have hroom0 : (true && (decide ((0 + w.Records.length) * 16 ≤ 140737488355328) && decide (0 + w.Records.length ≤ 9223372036854775807))) = true := by
    rw [decide_eq_true (show (0 + w.Records.length) * 16 ≤ 140737488355328 by omega), decide_eq_true (show 0 + w.Records.length ≤ 9223372036854775807 by omega)]; rfl
  simp only [lookoutref23_Append_s3]
  rw [show (⟨w.Disk.Inodes, w.Disk.Durable, w.Disk.Pending, w.Disk.Left⟩ : GDisk) = w.Disk from rfl, append_r _ 200 _ _ _ (h.bg.bd (by omega)) h.lw (by omega) (by omega)]
  simp only [Option.bind_some, lookoutref23_Append_s4]
  unfold finF
  rcases hc with e | ⟨e, e2⟩
  · simp only [e]
    rfl
  · obtain ⟨g1, g2⟩ := hg e
    simp only [e]
    rw [show ((0 : Int) == 0) = true from rfl]
    simp only [cond_true]
    rw [sync_r _ 200 _ _ (g1.bd (by omega)) g2 (by omega)]
    simp only [Option.bind_some]
    rcases e2 with e2 | e2
    · simp only [e2]
      rfl
    · simp only [e2]
      rw [show ((0 : Int) != 0) = false from rfl, hroom0, hroom, if_neg (by simp), if_neg (by simp)]
      rfl
theorem fS_snoc (l : List ByteArray) (i : Nat) (h : i < l.length) : fS (l.take i) ++ bs (frm (ky l[i])) = fS (l.take (i + 1)) := by
  apply ky_inj
  unfold fS
  rw [ky_app, ky_bs, ky_bs, ky_bs, List.take_succ_eq_append_getElem h, List.map_append]
  have : ∀ (a b : List (List UInt8)), frms (a ++ b) = frms a ++ frms b := by
    intro a b
    induction a with
    | nil => rfl
    | cons r a ih => simp only [List.cons_append, frms, ih, List.append_assoc]
  rw [this]
  simp [frms]
theorem fS_small (l : List ByteArray) (i : Nat) (h : Few l) : (fS (l.take i)).size ≤ 40140 := by
  rw [fS_size]
  have h1 := frms_few (l.take i) (fun s hs => h.1 s (List.mem_of_mem_take hs))
  have := h.2
  rw [List.length_take] at h1
  omega
theorem l6_eq (n : Nat) (w : GWal) (l : List ByteArray) (h : Few l) (hz : 0 ≤ w.Size ∧ w.Size ≤ 20000) (hn : 9000 ≤ n) : ∀ (k i m : Nat), i + k = l.length → k < m →
    wal_Append_l6 n l w m (l.length : Int) (i : Int) (fS (l.take i)) = wal_Append_s7 n l w (fS l)
  | _, i, 0, h2, hk => by omega
  | 0, i, m + 1, h2, hk => by
    simp only [wal_Append_l6]
    rw [decide_eq_false (show ¬ (i : Int) < (l.length : Int) by omega), List.take_of_length_le (by omega)]; rfl
  | k + 1, i, m + 1, h2, hk => by
    have h1 : i < l.length := by omega
    have hl := h.2
    have hx := h.1 l[i] (List.getElem_mem h1)
    have hs := fS_small l (i + 1) h
    obtain ⟨q, rfl⟩ : ∃ q, n = q + 1 := ⟨n - 1, by omega⟩
    simp only [wal_Append_l6]
    rw [dec_in i l.length h1, decide_eq_true (show (i : Int) < (l.length : Int) by omega), toNat_c, getS _ i h1, wr1 i (by omega), Frame_eq _ _ (by omega) (by omega)]
    simp only [cond_true, Option.bind_some, bWrite]
    have hsz : (fS (l.take i)).size + (bs (frm (ky l[i]))).size = (fS (l.take (i + 1))).size := by rw [← ByteArray.size_append, fS_snoc l i h1]
    rw [hsz, decide_eq_true (show (fS (l.take (i + 1))).size ≤ 140737488355328 by omega), fS_snoc l i h1]
    simp only [cond_true, Option.bind_some]
    rw [wr _ (by omega) (by omega), decide_eq_false (show ¬ ((fS (l.take (i + 1))).size : Int) > 1048576 - w.Size by omega)]
    simp only [cond_false]
    exact l6_eq (q + 1) w l h hz hn k (i + 1) m (by omega) (by omega)
theorem l4_eq (n : Nat) (w : GWal) (l : List ByteArray) (h : Few l) : ∀ (k i m : Nat), i + k = l.length → k < m →
    wal_Append_l4 n l w m (l.length : Int) (i : Int) = wal_Append_s5 n l w
  | _, i, 0, h2, hk => by omega
  | 0, i, m + 1, h2, hk => by
    simp only [wal_Append_l4]
    rw [decide_eq_false (show ¬ (i : Int) < (l.length : Int) by omega)]; rfl
  | k + 1, i, m + 1, h2, hk => by
    have h1 : i < l.length := by omega
    have hl := h.2
    have hx := h.1 l[i] (List.getElem_mem h1)
    simp only [wal_Append_l4]
    rw [dec_in i l.length h1, decide_eq_true (show (i : Int) < (l.length : Int) by omega), toNat_c, getS _ i h1, wr1 i (by omega), decide_eq_false (show ¬ (l[i].size : Int) > 262144 by omega)]
    simp only [cond_true, cond_false]
    exact l4_eq n w l h k (i + 1) m (by omega) (by omega)
theorem rl2_eq (n : Nat) (w : GWal) (l : List ByteArray) (h : Few l) (hz : 0 ≤ w.Size ∧ w.Size ≤ 20000) (hn : 9000 ≤ n) : ∀ (k i m : Nat), i + k = l.length → k < m →
    lookoutref23_Append_l2 n l w m (fS (l.take i)) (i : Int) = lookoutref23_Append_s3 n l w (fS l)
  | _, i, 0, h2, hk => by omega
  | 0, i, m + 1, h2, hk => by
    simp only [lookoutref23_Append_l2]
    rw [decide_eq_false (show ¬ (i : Int) < (l.length : Int) by omega), List.take_of_length_le (by omega)]; rfl
  | k + 1, i, m + 1, h2, hk => by
    have h1 : i < l.length := by omega
    have hl := h.2
    have hx := h.1 l[i] (List.getElem_mem h1)
    have hs := fS_small l (i + 1) h
    simp only [lookoutref23_Append_l2]
    rw [dec_in i l.length h1, decide_eq_true (show (i : Int) < (l.length : Int) by omega), toNat_c, getS _ i h1, wr1 i (by omega), rFrame_eq _ _ (by omega) (by omega)]
    simp only [cond_true, Option.bind_some]
    have hsz : (fS (l.take i)).size + (bs (frm (ky l[i]))).size = (fS (l.take (i + 1))).size := by rw [← ByteArray.size_append, fS_snoc l i h1]
    rw [hsz, decide_eq_true (show (fS (l.take (i + 1))).size ≤ 9223372036854775807 by omega), fS_snoc l i h1]
    simp only [cond_true]
    rw [wr _ (by omega) (by omega), decide_eq_false (show ¬ (w.Size + ((fS (l.take (i + 1))).size : Int)) > 1048576 by omega)]
    simp only [cond_false]
    exact rl2_eq n w l h hz hn k (i + 1) m (by omega) (by omega)
theorem rl0_eq (n : Nat) (w : GWal) (l : List ByteArray) (h : Few l) : ∀ (k i m : Nat), i + k = l.length → k < m →
    lookoutref23_Append_l0 n l w m (i : Int) = lookoutref23_Append_s1 n l w
  | _, i, 0, h2, hk => by omega
  | 0, i, m + 1, h2, hk => by
    simp only [lookoutref23_Append_l0]
    rw [decide_eq_false (show ¬ (i : Int) < (l.length : Int) by omega)]; rfl
  | k + 1, i, m + 1, h2, hk => by
    have h1 : i < l.length := by omega
    have hl := h.2
    have hx := h.1 l[i] (List.getElem_mem h1)
    simp only [lookoutref23_Append_l0]
    rw [dec_in i l.length h1, decide_eq_true (show (i : Int) < (l.length : Int) by omega), toNat_c, getS _ i h1, wr1 i (by omega), decide_eq_false (show ¬ (l[i].size : Int) > 262144 by omega)]
    simp only [cond_true, cond_false]
    exact rl0_eq n w l h k (i + 1) m (by omega) (by omega)
def apF (w : GWal) (l : List ByteArray) : GWal × Int := if chkF w ≠ 0 then (zW, 1) else if l = [] then (w, 0) else finF w l
theorem chk_01 (w : GWal) : chkF w = 0 ∨ chkF w = 1 := by
  unfold chkF; split
  · exact .inl rfl
  · exact .inr rfl
theorem size_in {w : GWal} {l : List ByteArray} (h : Can w l) : 0 ≤ w.Size ∧ w.Size ≤ 20000 := by
  obtain ⟨h1, h2⟩ := chk_ok h.ok
  have hdl := h.bg.dl
  obtain ⟨o1, o2, o3, o4, o5, o6⟩ := file_ok (by omega) h1
  have hdz : (file w.Disk w.Name).Data.size ≤ 20000 := by
    refine h.dt _ ?_
    have hb : ino w.Disk w.Name < w.Disk.Inodes.length := o2
    have : file w.Disk w.Name = w.Disk.Inodes[ino w.Disk w.Name] := by unfold file; simp [List.getD, hb]
    rw [this]; exact List.getElem_mem hb
  omega
theorem fS_pos {l : List ByteArray} (h : l ≠ []) : 1 ≤ (fS l).size := by
  rw [fS_size]
  cases l with
  | nil => exact absurd rfl h
  | cons a l =>
    simp only [List.map_cons, frms, List.length_append]
    unfold frm
    rw [List.length_append, List.length_append, four_len]
    omega
theorem append_wd (n : Nat) (w : GWal) (l : List ByteArray) (hb : Bg 80 w.Disk) (hw : Lw w.Disk) (hd : ∀ x ∈ w.Disk.Inodes, x.Data.size ≤ 20000) (hr : Few w.Records) (hl : Few l) (hn : 30000 ≤ n) : wal_Append n w l = some (apF w l) := by
  obtain ⟨m, rfl⟩ : ∃ m, n = m + 1 := ⟨n - 1, by omega⟩
  simp only [wal_Append]
  rw [show (⟨⟨w.Disk.Inodes, w.Disk.Durable, w.Disk.Pending, w.Disk.Left⟩, w.Name, w.Size, w.Records⟩ : GWal) = w from rfl, check_d m w (hb.bd (by omega)) hr (by omega)]
  simp only [Option.bind_some]
  unfold apF
  rcases chk_01 w with e | e
  · rw [eq0 e, if_neg (fun x => x e)]
    simp only [cond_false]
    by_cases c : l = []
    · subst c; rfl
    · have hc : Can w l := ⟨hb, hw, hd, hr, hl, e⟩
      have hll := hl.2
      rw [if_neg c, show ((l.length : Int) == 0) = false by rw [beq_eq_false_iff_ne]; have := List.length_pos_iff.2 c; omega]
      simp only [cond_false]
      refine (l4_eq m w l hl l.length 0 m (by omega) (by omega)).trans ?_
      simp only [wal_Append_s5]
      exact (l6_eq m w l hl (size_in hc) (by omega) l.length 0 m (by omega) (by omega)).trans (s7_eq m w l hc (fS_pos c) (by omega))
  · rw [ne0 (show chkF w ≠ 0 by omega), if_pos (by omega), e]; rfl
theorem append_wr (n : Nat) (w : GWal) (l : List ByteArray) (hb : Bg 80 w.Disk) (hw : Lw w.Disk) (hd : ∀ x ∈ w.Disk.Inodes, x.Data.size ≤ 20000) (hr : Few w.Records) (hl : Few l) (hn : 30000 ≤ n) : lookoutref23_Append n w l = some (apF w l) := by
  obtain ⟨m, rfl⟩ : ∃ m, n = m + 1 := ⟨n - 1, by omega⟩
  simp only [lookoutref23_Append]
  rw [show (⟨⟨w.Disk.Inodes, w.Disk.Durable, w.Disk.Pending, w.Disk.Left⟩, w.Name, w.Size, w.Records⟩ : GWal) = w from rfl, check_r m w (hb.bd (by omega)) hr hd (by omega)]
  simp only [Option.bind_some]
  unfold apF
  rcases chk_01 w with e | e
  · rw [eq0 e, if_neg (fun x => x e)]
    simp only [cond_false]
    by_cases c : l = []
    · subst c; rfl
    · have hc : Can w l := ⟨hb, hw, hd, hr, hl, e⟩
      have hll := hl.2
      rw [if_neg c, show ((l.length : Int) == 0) = false by rw [beq_eq_false_iff_ne]; have := List.length_pos_iff.2 c; omega]
      simp only [cond_false]
      refine (rl0_eq m w l hl l.length 0 m (by omega) (by omega)).trans ?_
      simp only [lookoutref23_Append_s1]
      exact (rl2_eq m w l hl (size_in hc) (by omega) l.length 0 m (by omega) (by omega)).trans (s3_eq m w l hc (by omega))
  · rw [ne0 (show chkF w ≠ 0 by omega), if_pos (by omega)]; rfl

/-! ### The same -/
theorem sstr_l0 (n : Nat) (a : List ByteArray) (ha : a.length < 1000000000) : ∀ (k i m : Nat), i + k = a.length → k < m → lookoutref23_SameStrings_l0 n a a m (i : Int) = some true
  | _, i, 0, h, hk => by omega
  | 0, i, m + 1, h, hk => by
    simp only [lookoutref23_SameStrings_l0]
    rw [decide_eq_false (show ¬ (i : Int) < (a.length : Int) by omega)]; rfl
  | k + 1, i, m + 1, h, hk => by
    simp only [lookoutref23_SameStrings_l0]
    rw [dec_in i a.length (by omega), decide_eq_true (show (i : Int) < (a.length : Int) by omega), sNe_eq, decide_eq_true rfl, wr1 i (by omega)]
    simp only [cond_true, Bool.not_true, cond_false]
    exact sstr_l0 n a ha k (i + 1) m (by omega) (by omega)
theorem sameW (n : Nat) (w : GWal) (h1 : w.Disk.Pending.length ≤ 1000) (h2 : w.Disk.Durable.length ≤ 1000) (h3 : w.Disk.Inodes.length ≤ 1000) (h4 : w.Records.length ≤ 20000) (hn : 25000 ≤ n) : lookoutref23_Same n w w = some true := by
  obtain ⟨m, rfl⟩ : ∃ m, n = m + 2 := ⟨n - 2, by omega⟩
  have hd : lookoutref22_Same (m + 1) w.Disk w.Disk = some true := by
    simp only [lookoutref22_Same, bne, beq_self_eq_true, Bool.not_true, cond_false]
    exact same_l0 m w.Disk (by omega) (by omega) (by omega) (by omega) (by omega) w.Disk.Inodes.length 0 m (by omega) (by omega)
  simp only [lookoutref23_Same]
  rw [show (⟨w.Disk.Inodes, w.Disk.Durable, w.Disk.Pending, w.Disk.Left⟩ : GDisk) = w.Disk from rfl, hd, sEq_eq, decide_eq_true rfl]
  simp only [Option.bind_some, cond_true, beq_self_eq_true, lookoutref23_SameStrings, bne_self_eq_false, cond_false]
  rw [show lookoutref23_SameStrings_l0 m w.Records w.Records m 0 = some true from sstr_l0 m w.Records (by omega) w.Records.length 0 m (by omega) (by omega)]
  rfl
def Mid (w : GWal) : Prop := w.Disk.Pending.length ≤ 1000 ∧ w.Disk.Durable.length ≤ 1000 ∧ w.Disk.Inodes.length ≤ 1000 ∧ w.Records.length ≤ 20000
theorem mid_a (w : GWal) (l : List ByteArray) (hb : Bg 80 w.Disk) (hw : Lw w.Disk) (hd : ∀ x ∈ w.Disk.Inodes, x.Data.size ≤ 20000) (hr : Few w.Records) (hl : Few l) : Mid (apF w l).1 := by
  have hrl := hr.2; have hll := hl.2; have b1 := hb.dl; have b2 := hb.il
  unfold apF
  rcases chk_01 w with e | e
  · rw [if_neg (fun x => x e)]
    by_cases c : l = []
    · rw [if_pos c]; exact ⟨by show w.Disk.Pending.length ≤ _; omega, by show w.Disk.Durable.length ≤ _; omega, by show w.Disk.Inodes.length ≤ _; omega, by show w.Records.length ≤ _; omega⟩
    · rw [if_neg c]
      have hc : Can w l := ⟨hb, hw, hd, hr, hl, e⟩
      obtain ⟨h1, h2⟩ := chk_ok e
      have oA : Out 80 w.Disk (appF w.Disk w.Name (fS l)) := by
        unfold appF
        rw [if_neg (fun e => e h1)]
        split
        · exact out_no (by omega) (by omega)
        · exact out_prf (bg_chg hb)
      obtain ⟨a1, a2, a3⟩ := out_len oA hb
      unfold finF
      by_cases e1 : (appF w.Disk w.Name (fS l)).2 = 0
      · obtain ⟨g1, g2⟩ := (app_case hc).2 e1
        have oB : Out 81 (appF w.Disk w.Name (fS l)).1 (synF (appF w.Disk w.Name (fS l)).1 w.Name) := by
          unfold synF
          split
          · rename_i e; exact out_fnd e
          · exact out_prf (bg_chg g1)
        obtain ⟨c1, c2, c3⟩ := out_len oB g1
        simp only
        rw [if_neg (fun x => x e1)]
        split
        · exact ⟨by show (synF (appF w.Disk w.Name (fS l)).1 w.Name).1.Pending.length ≤ _; omega, by show (synF (appF w.Disk w.Name (fS l)).1 w.Name).1.Durable.length ≤ _; omega, by show (synF (appF w.Disk w.Name (fS l)).1 w.Name).1.Inodes.length ≤ _; omega, by show w.Records.length ≤ _; omega⟩
        · exact ⟨by show (synF (appF w.Disk w.Name (fS l)).1 w.Name).1.Pending.length ≤ _; omega, by show (synF (appF w.Disk w.Name (fS l)).1 w.Name).1.Durable.length ≤ _; omega, by show (synF (appF w.Disk w.Name (fS l)).1 w.Name).1.Inodes.length ≤ _; omega, by show (w.Records ++ l).length ≤ _; rw [List.length_append]; omega⟩
      · simp only
        rw [if_pos e1]
        exact ⟨by show (appF w.Disk w.Name (fS l)).1.Pending.length ≤ _; omega, by show (appF w.Disk w.Name (fS l)).1.Durable.length ≤ _; omega, by show (appF w.Disk w.Name (fS l)).1.Inodes.length ≤ _; omega, by show w.Records.length ≤ _; omega⟩
  · rw [if_pos (by omega)]
    exact ⟨Nat.zero_le _, Nat.zero_le _, Nat.zero_le _, Nat.zero_le _⟩
theorem walAppend_law (w : GWal) (l : List ByteArray) (hwf : wfGDisk w.Disk) (h1 : w.Records.length ≤ 9223372036854775807) (h2 : l.length ≤ 9223372036854775807) : ∃ n, lookoutlaw23_WalAppend n w l = some true := by
  refine ⟨w.Records.length + l.length + 40000 + 2, ?_⟩
  have hw := lw_of hwf
  generalize hN : w.Records.length + l.length + 40000 = N
  have ha : lookoutlaw23_awake (N + 1) = some true := awake_all _ (by omega)
  show lookoutlaw23_WalAppend ((N + 1) + 1) w l = _
  simp only [lookoutlaw23_WalAppend]
  rw [show (⟨⟨w.Disk.Inodes, w.Disk.Durable, w.Disk.Pending, w.Disk.Left⟩, w.Name, w.Size, w.Records⟩ : GWal) = w from rfl]
  have hG : ∃ b, lookoutref23_Great (N + 1) w = some b ∧ (b = false → Few w.Records ∧ Bg 80 w.Disk ∧ ∀ x ∈ w.Disk.Inodes, x.Data.size ≤ 20000) := by
    simp only [lookoutref23_Great]
    rw [show (⟨w.Disk.Inodes, w.Disk.Durable, w.Disk.Pending, w.Disk.Left⟩ : GDisk) = w.Disk from rfl]
    obtain ⟨b, g1, g2⟩ := great_all N w.Disk (by omega)
    rw [g1]
    simp only [Option.bind_some]
    cases b with
    | true => exact ⟨true, rfl, fun h => by cases h⟩
    | false =>
      obtain ⟨b2, q1, q2⟩ := gs_eq N w.Records h1 (by omega)
      simp only [cond_false]
      rw [q1]
      simp only [Option.bind_some]
      cases b2 with
      | true => exact ⟨true, rfl, fun h => by cases h⟩
      | false =>
        obtain ⟨c1, c2, c3, c4⟩ := g2 rfl
        exact ⟨_, rfl, fun _ => ⟨q2 rfl, ⟨c1.dn, c1.pn, by omega, by omega⟩, great_data N _ g1⟩⟩
  obtain ⟨b, g1, g2⟩ := hG
  rw [g1]
  simp only [Option.bind_some]
  cases b with
  | true => rw [ha]; rfl
  | false =>
    obtain ⟨hr, hb, hd⟩ := g2 rfl
    obtain ⟨b2, q1, q2⟩ := gs_eq (N + 1) l h2 (by omega)
    simp only [cond_false]
    rw [q1]
    simp only [Option.bind_some]
    cases b2 with
    | true => rw [ha]; rfl
    | false =>
      have hl := q2 rfl
      simp only [cond_false]
      rw [append_wd _ w l hb hw hd hr hl (by omega), append_wr _ w l hb hw hd hr hl (by omega), check_d _ w (hb.bd (by omega)) hr (by omega), check_r _ w (hb.bd (by omega)) hr hd (by omega)]
      obtain ⟨m1, m2, m3, m4⟩ := mid_a w l hb hw hd hr hl
      simp only [Option.bind_some, cond_true, beq_self_eq_true]
      rw [sameW _ (apF w l).1 m1 m2 m3 m4 (by omega), ha]
      simp only [Option.bind_some, cond_true]
end Go.Proofs.Ytkignmhjbjgkoaa
