/- Plain laws of the log: WalLong. -/
import Derived.Test.YtkignmhjbjgkoaaSq6
import Derived.Test.YtkignmhjbjgkoaaWf
set_option linter.unusedVariables false
set_option linter.unusedSimpArgs false
set_option maxRecDepth 100000
namespace Go.Proofs.Ytkignmhjbjgkoaa
open Go Go.AM

/-! ### The disk with one file -/
def dB (x : GInode) : GDisk := ⟨[x], [⟨wN, 0⟩], [], -1⟩
theorem bdB (x : GInode) : Bd 200 (dB x) := ⟨fun y hy => by
  simp only [dB, List.mem_singleton] at hy
  subst hy
  show wN.size ≤ 200
  decide, by simp [dB], by simp [dB], by simp [dB], by simp [dB], by omega⟩
theorem lwB (x : GInode) : Lw (dB x) := ⟨by simp [dB], by simp [dB]⟩
theorem v_sd : sdF (dA ⟨bE, 0⟩) = (dB ⟨bE, 0⟩, 0) := by kernel_rfl
theorem v_val : valid (dB ⟨bE, 0⟩) = true := by kernel_rfl
theorem valB {x : GInode} (h : okI x = true) : valid (dB x) = true := valid_chg (d := dB ⟨bE, 0⟩) (i := 0) v_val h (-1) (by omega)
theorem fndB {x : GInode} (h : okI x = true) : fnd (dB x) wN = (0, 0) := by
  unfold fnd
  rw [valB h]
  rfl
theorem fileB {x : GInode} (h : okI x = true) : file (dB x) wN = x := by
  unfold file ino
  rw [fndB h]; rfl
theorem rdB {x : GInode} (h : okI x = true) : rdF (dB x) wN = (x.Data, 0) := by
  unfold rdF
  rw [fndB h]; rfl
theorem appB (S : ByteArray) (h : S.size ≤ 1048576) : appF (dB ⟨bE, 0⟩) wN S = (dB ⟨S, 0⟩, 0) := by
  have hz : okI ⟨bE, 0⟩ = true := by decide
  have e : bE ++ S = S := by apply ky_inj; rw [ky_app]; rfl
  unfold appF
  rw [fndB hz, fileB hz, if_neg (by simp), if_neg (by show ¬ (S.size : Int) > 1048576 - ((0 : Nat) : Int); omega), e]
  unfold ino
  rw [fndB hz]
  rfl
theorem synB (S : ByteArray) (h : S.size ≤ 1048576) : synF (dB ⟨S, 0⟩) wN = (dB ⟨S, (S.size : Int)⟩, 0) := by
  have hz : okI ⟨S, 0⟩ = true := by simp only [okI, Bool.and_eq_true, decide_eq_true_eq]; omega
  unfold synF
  rw [fndB hz, fileB hz, if_neg (by simp)]
  unfold ino
  rw [fndB hz]
  rfl
theorem create_c (n : Nat) (hn : 5000 ≤ n) : wal_Create n ⟨[], [], [], -1⟩ wN = some (⟨dB ⟨bE, 0⟩, wN, 0, []⟩, 0) := by
  obtain ⟨m, rfl⟩ : ∃ m, n = m + 6 := ⟨n - 6, by omega⟩
  have h0 : Bd 200 (⟨[], [], [], -1⟩ : GDisk) := ⟨by simp, by simp, by simp, by simp, by simp, by omega⟩
  have w0 : Lw (⟨[], [], [], -1⟩ : GDisk) := ⟨by simp, by simp⟩
  simp only [wal_Create]
  rw [check_eq _ 200 _ h0 (by omega), show valid (⟨[], [], [], -1⟩ : GDisk) = true by kernel_rfl]
  simp only [Option.bind_some, cond_true, show ((0 : Int) != 0) = false by rfl, cond_false, wal_run, wal_Create_c1]
  rw [create_f _ 200 _ _ h0 w0 (by omega), v_crt]
  simp only [Option.bind_some, show ((0 : Int) != 0) = false by rfl, cond_false]
  rw [syncdir_f _ 200 _ (bdA _) (lwA _) (by omega), v_sd]
  rfl

/-! ### Great records -/
structure Big (l : List ByteArray) : Prop where
  sz : ∀ x ∈ l, x.size = 262144
  len : l.length ≤ 4
def fS (l : List ByteArray) : ByteArray := bs (frms (l.map ky))
theorem frm_big (x : ByteArray) (h : x.size = 262144) : (bs (frm (ky x))).size = 262151 := by
  have e : (enc 262144).length = 3 := by
    rw [enc_big (by omega), enc_big (by omega), enc_low (by omega)]; rfl
  rw [bs_size, frm_len, ky_len, h, e]
theorem fS_snoc (l : List ByteArray) (i : Nat) (h1 : i < l.length) : fS (l.take i) ++ bs (frm (ky l[i])) = fS (l.take (i + 1)) := by
  apply ky_inj
  unfold fS
  rw [ky_app, ky_bs, ky_bs, ky_bs, List.take_succ_eq_append_getElem h1, List.map_append]
  have : ∀ (a b : List (List UInt8)), frms (a ++ b) = frms a ++ frms b := by
    intro a b
    induction a with
    | nil => rfl
    | cons r a ih => simp only [List.cons_append, frms, ih, List.append_assoc]
  rw [this]
  simp [frms]
theorem fS_take (l : List ByteArray) (h : Big l) : ∀ i, i ≤ l.length → (fS (l.take i)).size = 262151 * i
  | 0, _ => by simp [fS, bs_size, frms]
  | i + 1, hi => by
    have h1 : i < l.length := by omega
    have ih := fS_take l h i (by omega)
    have e : fS (l.take i) ++ bs (frm (ky l[i])) = fS (l.take (i + 1)) := by
      apply ky_inj
      unfold fS
      rw [ky_app, ky_bs, ky_bs, ky_bs, List.take_succ_eq_append_getElem h1, List.map_append]
      have : ∀ (a b : List (List UInt8)), frms (a ++ b) = frms a ++ frms b := by
        intro a b
        induction a with
        | nil => rfl
        | cons r a ih => simp only [List.cons_append, frms, ih, List.append_assoc]
      rw [this]
      simp [frms]
    rw [← e, ByteArray.size_append, ih, frm_big _ (h.sz _ (List.getElem_mem h1))]
    omega

def w0 : GWal := ⟨dB ⟨bE, 0⟩, wN, 0, []⟩
theorem v_chk : chkF w0 = 0 := by kernel_rfl
theorem app_s7 (n : Nat) (l : List ByteArray) (h : Big l) (h3 : l.length ≤ 3) (h1 : 1 ≤ l.length) (hn : 10000 ≤ n) : wal_Append_s7 n l w0 (fS l) = some (⟨dB ⟨fS l, ((fS l).size : Int)⟩, wN, ((fS l).size : Int), l⟩, 0) := by
  obtain ⟨m, rfl⟩ : ∃ m, n = m + 5 := ⟨n - 5, by omega⟩
  have hs := fS_take l h l.length (Nat.le_refl _)
  rw [List.take_length] at hs
  have hclip : slices_Clip_75 (m + 5) w0.Records = some [] := rfl
  simp only [wal_Append_s7, wal_run_v1, wal_Append_c1]
  rw [show (⟨w0.Disk.Inodes, w0.Disk.Durable, w0.Disk.Pending, w0.Disk.Left⟩ : GDisk) = dB ⟨bE, 0⟩ from rfl, show w0.Name = wN from rfl, decide_eq_true (show 1 ≤ (fS l).size by omega), append_f _ 200 _ _ _ (bdB _) (lwB _) (by omega) (by omega), appB _ (by omega)]
  simp only [cond_true, Option.bind_some]
  rw [show ((0 : Int) != 0) = false from rfl]
  simp only [cond_false, wal_Append_c2]
  rw [sync_f _ 200 _ _ (bdB _) (lwB _) (by omega), synB _ (by omega)]
  simp only [Option.bind_some]
  rw [show ((0 : Int) != 0) = false from rfl]
  simp only [cond_false, Option.bind_some]
  rw [show ((0 : Int) != 0) = false from rfl, show ((0 : Int) == 19) = false from rfl, hclip]
  simp only [cond_false, Option.bind_some]
  rw [show (true && (decide ((([] : List ByteArray).length + l.length) * 16 ≤ 140737488355328) && decide (([] : List ByteArray).length + l.length ≤ 9223372036854775807))) = true by simp; omega, show w0.Size = 0 from rfl, wr _ (by omega) (by omega)]
  simp
theorem big_l6 (n : Nat) (l : List ByteArray) (h : Big l) (hn : 300000 ≤ n) : ∀ (k i m : Nat), i + k = l.length → k < m → i ≤ 3 →
    wal_Append_l6 n l w0 m (l.length : Int) (i : Int) (fS (l.take i)) = if l.length ≤ 3 then wal_Append_s7 n l w0 (fS l) else some (⟨⟨[], [], [], 0⟩, bE, 0, []⟩, 18)
  | _, i, 0, h2, hk, hi => by omega
  | 0, i, m + 1, h2, hk, hi => by
    simp only [wal_Append_l6]
    rw [decide_eq_false (show ¬ (i : Int) < (l.length : Int) by omega), List.take_of_length_le (by omega), if_pos (by omega)]; rfl
  | k + 1, i, m + 1, h2, hk, hi => by
    have h1 : i < l.length := by omega
    have hx := h.sz l[i] (List.getElem_mem h1)
    have hs := fS_take l h (i + 1) (by omega)
    have hs0 := fS_take l h i (by omega)
    have e : fS (l.take i) ++ bs (frm (ky l[i])) = fS (l.take (i + 1)) := fS_snoc l i h1
    obtain ⟨q, rfl⟩ : ∃ q, n = q + 1 := ⟨n - 1, by omega⟩
    simp only [wal_Append_l6]
    rw [dec_in i l.length h1, decide_eq_true (show (i : Int) < (l.length : Int) by omega), toNat_c, getS _ i h1, wr1 i (by omega), Frame_eq _ _ (by omega) (by omega)]
    simp only [cond_true, Option.bind_some, bWrite]
    rw [frm_big _ hx, decide_eq_true (show (fS (l.take i)).size + 262151 ≤ 140737488355328 by omega), e]
    simp only [cond_true, Option.bind_some]
    rw [show w0.Size = 0 from rfl, wr _ (by omega) (by omega)]
    by_cases c : i + 1 ≤ 3
    · rw [decide_eq_false (show ¬ ((fS (l.take (i + 1))).size : Int) > 1048576 - 0 by omega)]
      simp only [cond_false]
      exact big_l6 (q + 1) l h hn k (i + 1) m (by omega) (by omega) c
    · rw [decide_eq_true (show ((fS (l.take (i + 1))).size : Int) > 1048576 - 0 by omega), if_neg (by omega)]; rfl
theorem big_l4 (n : Nat) (l : List ByteArray) (h : ∀ x ∈ l, x.size = 262144) (hl : l.length ≤ 4) : ∀ (k i m : Nat), i + k = l.length → k < m →
    wal_Append_l4 n l w0 m (l.length : Int) (i : Int) = wal_Append_s5 n l w0
  | _, i, 0, h2, hk => by omega
  | 0, i, m + 1, h2, hk => by
    simp only [wal_Append_l4]
    rw [decide_eq_false (show ¬ (i : Int) < (l.length : Int) by omega)]; rfl
  | k + 1, i, m + 1, h2, hk => by
    have h1 : i < l.length := by omega
    have hx := h l[i] (List.getElem_mem h1)
    simp only [wal_Append_l4]
    rw [dec_in i l.length h1, decide_eq_true (show (i : Int) < (l.length : Int) by omega), toNat_c, getS _ i h1, wr1 i (by omega), decide_eq_false (show ¬ (l[i].size : Int) > 262144 by omega)]
    simp only [cond_true, cond_false]
    exact big_l4 n l h hl k (i + 1) m (by omega) (by omega)
end Go.Proofs.Ytkignmhjbjgkoaa

/- Plain laws of the log: WalLong, the law. -/
set_option linter.unusedVariables false
set_option linter.unusedSimpArgs false
set_option maxRecDepth 100000
namespace Go.Proofs.Ytkignmhjbjgkoaa
open Go Go.AM

theorem fill_one (c : Int) (i k : Nat) : (List.replicate i c ++ List.replicate (k + 1) (0 : Int)).set i c = List.replicate (i + 1) c ++ List.replicate k 0 := by
  rw [List.set_append_right _ _ (by simp), List.replicate_succ' (n := i)]
  simp [List.replicate_succ]
theorem fill_l0 (n : Nat) (c p1 p2 : Int) (K : Nat) (hK : K ≤ 300000) : ∀ (k i m : Nat), i + k = K → k < m →
    lookoutlaw23_WalLong_l0 n c p1 p2 m K (K : Int) (i : Int) (List.replicate i c ++ List.replicate k 0) = lookoutlaw23_WalLong_s1 n p1 p2 K (List.replicate K c)
  | _, i, 0, h, hk => by omega
  | 0, i, m + 1, h, hk => by
    simp only [lookoutlaw23_WalLong_l0]
    rw [decide_eq_false (show ¬ (i : Int) < (K : Int) by omega), show i = K by omega]
    simp
  | k + 1, i, m + 1, h, hk => by
    simp only [lookoutlaw23_WalLong_l0]
    rw [dec_in i K (by omega), decide_eq_true (show (i : Int) < (K : Int) by omega), toNat_c, wr1 i (by omega), show Nat.blt i (List.replicate i c ++ List.replicate (k + 1) (0 : Int)).length = true by rw [Nat.blt_eq]; simp, fill_one]
    simp only [cond_true]
    exact fill_l0 n c p1 p2 K hK k (i + 1) m (by omega) (by omega)
def bB (K : Nat) (c : Int) : ByteArray := bytesOf (List.replicate K c)
theorem bB_size (K : Nat) (c : Int) : (bB K c).size = K := by
  rw [← ky_len]; simp [bB, bytesOf, ky]
theorem times_l2 (n : Nat) (p1 : Int) (K : Nat) (r3 : GWal × Int) (c : Int) (t : Nat) (ht : t ≤ 4) : ∀ (k i m : Nat), i + k = t → k < m →
    lookoutlaw23_WalLong_l2 n p1 K r3 (List.replicate K c) m (t : Int) (List.replicate i (bB K c)) (t : Int) (i : Int) = lookoutlaw23_WalLong_s3 n p1 K (t : Int) r3 (List.replicate K c) (List.replicate t (bB K c))
  | _, i, 0, h, hk => by omega
  | 0, i, m + 1, h, hk => by
    simp only [lookoutlaw23_WalLong_l2]
    rw [decide_eq_false (show ¬ (i : Int) < (t : Int) by omega), show i = t by omega]; rfl
  | k + 1, i, m + 1, h, hk => by
    simp only [lookoutlaw23_WalLong_l2]
    rw [decide_eq_true (show (i : Int) < (t : Int) by omega), wr1 i (by omega), show Nat.ble K (List.replicate K c).length = true by simp, show (List.replicate K c).take K = List.replicate K c by simp, room16 _ (by simp; omega)]
    simp only [cond_true]
    rw [show List.replicate i (bB K c) ++ [bytesOf (List.replicate K c)] = List.replicate (i + 1) (bB K c) from (List.replicate_succ' (n := i)).symm]
    exact times_l2 n p1 K r3 c t ht k (i + 1) m (by omega) (by omega)
theorem chk_big (n : Nat) (w : GWal) (hr : ∀ x ∈ w.Records, x.size = 262144) (hl : w.Records.length ≤ 4) (hn : 300000 ≤ n) : ∀ (k i m : Nat) (s : ByteArray), i + k = w.Records.length → k < m → ky s = frms ((w.Records.drop i).map ky) →
    wal_Check_l0 n w m s (w.Records.length : Int) (i : Int) = some 0
  | _, i, 0, s, h, hk, hs => by omega
  | 0, i, m + 1, s, h, hk, hs => by
    simp only [wal_Check_l0]
    rw [decide_eq_false (show ¬ (i : Int) < (w.Records.length : Int) by omega)]
    rw [List.drop_eq_nil_of_le (by omega)] at hs
    have : s = bE := ky_inj (by rw [hs]; rfl)
    simp only [cond_false, wal_Check_s1, sNe_eq, decide_eq_true this]
    rfl
  | k + 1, i, m + 1, s, h, hk, hs => by
    have h1 : i < w.Records.length := by omega
    have hz := hr w.Records[i] (List.getElem_mem h1)
    rw [List.drop_eq_getElem_cons h1] at hs
    simp only [List.map_cons, frms] at hs
    simp only [wal_Check_l0]
    rw [dec_in i w.Records.length h1, decide_eq_true (show (i : Int) < (w.Records.length : Int) by omega), toNat_c, getS _ i h1, wr1 i (by omega), decide_eq_false (show ¬ (w.Records[i].size : Int) > 262144 by omega), Frame_eq n _ (by omega) (by omega)]
    simp only [cond_true, cond_false, Option.bind_some]
    rw [cut_eq n _ _ (by omega)]
    simp only [Option.bind_some]
    rw [if_pos ⟨by rw [← ky_len, hs, List.length_append]; omega, by rw [hs]; simp⟩]
    simp only [Bool.not_true, cond_false]
    exact chk_big n w hr hl hn k (i + 1) m _ (by omega) (by omega) (by rw [ky_bs, hs]; simp)
theorem app_pre (n : Nat) (l : List ByteArray) (h : 1 ≤ l.length) (hn : 20000 ≤ n) : wal_Append (n + 1) w0 l = wal_Append_l4 n l w0 n (l.length : Int) 0 := by
  simp only [wal_Append]
  rw [show (⟨⟨w0.Disk.Inodes, w0.Disk.Durable, w0.Disk.Pending, w0.Disk.Left⟩, w0.Name, w0.Size, w0.Records⟩ : GWal) = w0 from rfl, check_d n w0 (bdB _) ⟨by simp [w0], by simp [w0]⟩ (by omega), v_chk]
  simp only [Option.bind_some]
  rw [show ((0 : Int) != 0) = false from rfl, show ((l.length : Int) == 0) = false by rw [beq_eq_false_iff_ne]; omega]
  rfl
theorem chk_app (N : Nat) (l : List ByteArray) (hbig : Big l) (h3 : l.length ≤ 3) (h1 : 1 ≤ l.length) (hN : 400000 ≤ N) : wal_Check (N + 1) ⟨dB ⟨fS l, ((fS l).size : Int)⟩, wN, ((fS l).size : Int), l⟩ = some 0 := by
  have hs := fS_take l hbig l.length (Nat.le_refl _)
  rw [List.take_length] at hs
  have hm2 := hbig.sz
  have hok : okI ⟨fS l, ((fS l).size : Int)⟩ = true := by simp only [okI, Bool.and_eq_true, decide_eq_true_eq]; omega
  simp only [wal_Check]
  rw [show (⟨(dB ⟨fS l, ((fS l).size : Int)⟩).Inodes, (dB ⟨fS l, ((fS l).size : Int)⟩).Durable, (dB ⟨fS l, ((fS l).size : Int)⟩).Pending, (dB ⟨fS l, ((fS l).size : Int)⟩).Left⟩ : GDisk) = dB ⟨fS l, ((fS l).size : Int)⟩ from rfl, read_d _ 200 _ _ (bdB _) (by omega), rdB hok]
  simp only [Option.bind_some]
  rw [show ((0 : Int) != 0) = false from rfl, bne_self_eq_false]
  simp only [cond_false]
  have hcb := chk_big N ⟨dB ⟨fS l, ((fS l).size : Int)⟩, wN, ((fS l).size : Int), l⟩ hm2 (by show l.length ≤ 4; omega) (by omega) l.length 0 N (fS l) (by simp) (by omega) (by rw [List.drop_zero]; exact ky_bs _)
  rw [Int.natCast_zero] at hcb
  exact hcb

theorem walLong_law (c p1 p2 : Int) (h0 : 0 ≤ c ∧ c < 256) (h1 : 0 ≤ p1 ∧ p1 < 256) (h2 : 0 ≤ p2 ∧ p2 < 256) : ∃ n, lookoutlaw23_WalLong n c p1 p2 = some true := by
  refine ⟨400000 + 2, ?_⟩
  generalize hN : (400000 : Nat) = N
  obtain ⟨q, rfl⟩ : ∃ q : Nat, p1 = q := ⟨p1.toNat, by omega⟩
  have ha : lookoutlaw23_awake (N + 1) = some true := awake_all _ (by omega)
  show lookoutlaw23_WalLong ((N + 1) + 1) c q p2 = _
  simp only [lookoutlaw23_WalLong]
  rw [wr (q : Int) (by omega) (by omega), wr _ (by omega) (by omega), show (262144 + (q : Int)) = ((262144 + q : Nat) : Int) by omega, toNat_c]
  rw [show (decide (0 ≤ ((262144 + q : Nat) : Int)) && decide (((262144 + q : Nat) : Int) * 1 ≤ 140737488355328) && decide (((262144 + q : Nat) : Int) ≤ 9223372036854775807)) = true by simp; omega]
  simp only [cond_true]
  generalize hK : 262144 + q = K
  have hf := fill_l0 (N + 1) c q p2 K (by omega) K 0 (N + 1) (by omega) (by omega)
  rw [List.replicate_zero, List.nil_append, Int.natCast_zero] at hf
  rw [hf]
  simp only [lookoutlaw23_WalLong_s1, disk_New, Option.bind_some]
  rw [show (⟨#[119]⟩ : ByteArray) = wN from rfl, create_c _ (by omega)]
  simp only [Option.bind_some]
  obtain ⟨t, ht, ht1, ht2⟩ : ∃ t : Nat, IntKind.wrap .i64 (1 + Int.tmod (IntKind.wrap .i64 p2) 4) = t ∧ 1 ≤ t ∧ t ≤ 4 := by
    rw [wr p2 (by omega) (by omega), Int.tmod_eq_emod_of_nonneg (by omega), wr _ (by omega) (by omega)]
    exact ⟨(1 + p2 % 4).toNat, by omega, by omega, by omega⟩
  rw [ht]
  have ht2' := fun r3 => times_l2 (N + 1) q K r3 c t ht2 t 0 (N + 1) (by omega) (by omega)
  simp only [List.replicate_zero, Int.natCast_zero] at ht2'
  rw [ht2']
  have hlen : (List.replicate t (bB K c)).length = t := by simp
  have hmem : ∀ x ∈ List.replicate t (bB K c), x.size = K := fun x hx => by rw [(List.mem_replicate.1 hx).2]; exact bB_size K c
  simp only [lookoutlaw23_WalLong_s3]
  rw [show (⟨dB ⟨bE, 0⟩, wN, 0, []⟩ : GWal) = w0 from rfl, app_pre N _ (by omega) (by omega)]
  generalize hL : List.replicate t (bB K c) = l at *
  by_cases hq : q = 0
  · subst hq
    have hK2 : K = 262144 := by omega
    have hm2 : ∀ x ∈ l, x.size = 262144 := fun x hx => (hmem x hx).trans hK2
    have hbig : Big l := ⟨hm2, by omega⟩
    have h4 := big_l4 N l hm2 (by omega) l.length 0 N (by omega) (by omega)
    rw [Int.natCast_zero] at h4
    rw [h4]
    simp only [wal_Append_s5]
    have h6 := big_l6 N l hbig (by omega) l.length 0 N (by omega) (by omega) (by omega)
    rw [Int.natCast_zero, List.take_zero, show fS [] = bE from rfl] at h6
    rw [h6]
    by_cases h3 : l.length ≤ 3
    · rw [if_pos h3, app_s7 N l hbig h3 (by omega) (by omega)]
      have hs := fS_take l hbig l.length (Nat.le_refl _)
      rw [List.take_length] at hs
      have hck := chk_app N l hbig h3 (by omega) (by omega)
      simp only [Option.bind_some]
      rw [show ((0 : Int) != 0) = false from rfl, decide_eq_false (show ¬ (((0 : Nat) : Int) > 0) by omega), show ((t : Int) == 4) = false by rw [beq_eq_false_iff_ne]; omega, show ((0 : Int) == 0) = true from rfl, wr _ (by omega) (by omega), show (((fS l).size : Int) == (t : Int) * 262151) = true by rw [beq_iff_eq]; omega, hck, ha]
      rfl
    · rw [if_neg h3]
      simp only [Option.bind_some]
      rw [show ((0 : Int) != 0) = false from rfl, decide_eq_false (show ¬ (((0 : Nat) : Int) > 0) by omega), show ((t : Int) == 4) = true by rw [beq_iff_eq]; omega, ha]
      rfl
  · have h4 : wal_Append_l4 N l w0 N (l.length : Int) 0 = some (⟨⟨[], [], [], 0⟩, bE, 0, []⟩, 4) := by
      obtain ⟨N', rfl⟩ : ∃ N', N = N' + 1 := ⟨N - 1, by omega⟩
      have hz := hmem l[0] (List.getElem_mem (by omega))
      have hg := getS l 0 (by omega)
      simp only [wal_Append_l4]
      have hd := dec_in 0 l.length (by omega)
      rw [Int.natCast_zero] at hd
      rw [hd, decide_eq_true (show (0 : Int) < (l.length : Int) by omega), show (0 : Int).toNat = 0 from rfl, hg, decide_eq_true (show (l[0].size : Int) > 262144 by omega)]
      rfl
    have hF : wal_Frame (N + 1) (bytesOf ((List.replicate K c).take K)) = some bE := by
      rw [show (List.replicate K c).take K = List.replicate K c by simp]
      simp only [wal_Frame]
      rw [decide_eq_true (show ((bytesOf (List.replicate K c)).size : Int) > 262144 by have := bB_size K c; unfold bB at this; omega)]
      rfl
    rw [h4]
    simp only [Option.bind_some]
    rw [show ((0 : Int) != 0) = false from rfl, decide_eq_true (show ((q : Nat) : Int) > 0 by omega), show Nat.ble K (List.replicate K c).length = true by simp, hF, ha]
    simp only [cond_true, cond_false, Option.bind_some, show sEq bE bE = true by kernel_rfl]
    rfl
end Go.Proofs.Ytkignmhjbjgkoaa
