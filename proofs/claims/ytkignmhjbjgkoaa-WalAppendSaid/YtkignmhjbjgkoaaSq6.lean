/- Plain laws of the log: WalAppend. -/
import Derived.Test.YtkignmhjbjgkoaaSq3
import Derived.Test.YtkignmhjbjgkoaaSp11
set_option linter.unusedVariables false
set_option linter.unusedSimpArgs false
set_option maxRecDepth 100000
namespace Go.Proofs.Ytkignmhjbjgkoaa
open Go Go.AM

theorem ne0 {x : Int} (h : x ≠ 0) : (x != 0) = true := by simpa using h
theorem eq0 {x : Int} (h : x = 0) : (x != 0) = false := by subst h; rfl
theorem getS (l : List ByteArray) (i : Nat) (h : i < l.length) : l.getD i bE = l[i] := by simp [List.getD, h]
theorem recs_le (l : List UInt8) : (recs l).length ≤ l.length := by
  have := scanL_le (l.length + 1) l
  unfold recs; rw [List.length_map]; omega

/-! ### The chapter's example, at every great fuel -/
def wN : ByteArray := ⟨#[119]⟩
def fA : ByteArray := bs (frm [97, 98, 99])
def dA (x : GInode) : GDisk := ⟨[x], [], [⟨1, wN, bE, 0⟩], -1⟩
theorem bdA (x : GInode) : Bd 200 (dA x) := ⟨by simp [dA], fun y hy => by
  simp only [dA, List.mem_singleton] at hy
  subst hy
  show wN.size + bE.size ≤ 200
  decide, by simp [dA], by simp [dA], by simp [dA], by omega⟩
theorem lwA (x : GInode) : Lw (dA x) := ⟨by simp [dA], by simp [dA]⟩
theorem eq_l0 (n : Nat) (a : List ByteArray) (ha : a.length < 1000000000) : ∀ (k i m : Nat), i + k = a.length → k < m → slices_Equal_l0 n a a m (a.length : Int) (i : Int) = some true
  | _, i, 0, h, hk => by omega
  | 0, i, m + 1, h, hk => by
    simp only [slices_Equal_l0]
    rw [decide_eq_false (show ¬ (i : Int) < (a.length : Int) by omega)]; rfl
  | k + 1, i, m + 1, h, hk => by
    simp only [slices_Equal_l0]
    rw [dec_in i a.length (by omega), decide_eq_true (show (i : Int) < (a.length : Int) by omega), sNe_eq, decide_eq_true rfl, wr1 i (by omega)]
    simp only [cond_true, Bool.not_true, cond_false]
    exact eq_l0 n a ha k (i + 1) m (by omega) (by omega)
theorem eqS (n : Nat) (a : List ByteArray) (ha : a.length < 1000000000) (hn : a.length + 3 ≤ n) : slices_Equal n a a = some true := by
  obtain ⟨m, rfl⟩ : ∃ m, n = m + 1 := ⟨n - 1, by omega⟩
  simp only [slices_Equal, bne_self_eq_false, cond_false]
  exact eq_l0 m a ha a.length 0 m (by omega) (by omega)
theorem v_crt : crtF ⟨[], [], [], -1⟩ wN = (dA ⟨bE, 0⟩, 0) := by kernel_rfl
theorem v_app : appF (dA ⟨bE, 0⟩) wN (fA ++ ⟨#[5]⟩) = (dA ⟨fA ++ ⟨#[5]⟩, 0⟩, 0) := by kernel_rfl
theorem v_rd1 : rdF (dA ⟨fA ++ ⟨#[5]⟩, 0⟩) wN = (fA ++ ⟨#[5]⟩, 0) := by kernel_rfl
theorem v_recs : recs (ky (fA ++ ⟨#[5]⟩)) = [⟨#[97, 98, 99]⟩] := by kernel_rfl
theorem v_ext : extent (ky (fA ++ ⟨#[5]⟩)) = 8 := by kernel_rfl
theorem v_tru : truF (dA ⟨fA ++ ⟨#[5]⟩, 0⟩) wN 8 = (dA ⟨fA, 0⟩, 0) := by kernel_rfl
theorem v_syn : synF (dA ⟨fA, 0⟩) wN = (dA ⟨fA, 8⟩, 0) := by kernel_rfl
theorem v_rd2 : rdF (dA ⟨fA, 8⟩) wN = (fA, 0) := by kernel_rfl
theorem v_size : fA.size = 8 := by kernel_rfl
theorem v_size2 : (fA ++ (⟨#[5]⟩ : ByteArray)).size = 9 := by kernel_rfl
theorem v_pre : sEq (ByteArray.extract fA 0 4) ⟨#[3, 97, 98, 99]⟩ = true := by kernel_rfl
theorem awake_all (n : Nat) (hn : 9000 ≤ n) : lookoutlaw23_awake n = some true := by
  obtain ⟨m, rfl⟩ : ∃ m, n = m + 9 := ⟨n - 9, by omega⟩
  have hF : wal_Frame (m + 8) ⟨#[97, 98, 99]⟩ = some fA := Frame_eq _ _ (by decide) (by show 3 + 100 ≤ _; omega)
  have hS : wal_Scan (m + 8) (fA ++ ⟨#[5]⟩) = some ([⟨#[97, 98, 99]⟩], 8) := by
    rw [Scan_eq _ _ (by rw [v_size2]; omega) (by rw [v_size2]; omega), v_recs, v_ext]; rfl
  have hS7 : wal_Scan (m + 7) (fA ++ ⟨#[5]⟩) = some ([⟨#[97, 98, 99]⟩], 8) := by
    rw [Scan_eq _ _ (by rw [v_size2]; omega) (by rw [v_size2]; omega), v_recs, v_ext]; rfl
  have hC : disk_Create (m + 8) ⟨[], [], [], -1⟩ wN = some (dA ⟨bE, 0⟩, 0) := by
    rw [create_f _ 200 _ _ ⟨by simp, by simp, by simp, by simp, by simp, by omega⟩ ⟨by simp, by simp⟩ (by omega), v_crt]
  have hA : disk_Append (m + 8) (dA ⟨bE, 0⟩) wN (fA ++ ⟨#[5]⟩) = some (dA ⟨fA ++ ⟨#[5]⟩, 0⟩, 0) := by
    rw [append_f _ 200 _ _ _ (bdA _) (lwA _) (by omega) (by rw [v_size2]; omega), v_app]
  have hO : wal_Open (m + 8) (dA ⟨fA ++ ⟨#[5]⟩, 0⟩) wN = some (⟨dA ⟨fA, 8⟩, wN, 8, [⟨#[97, 98, 99]⟩]⟩, 0) := by
    simp only [wal_Open]
    rw [read_d _ 200 _ _ (bdA _) (by omega), v_rd1]
    simp only [Option.bind_some, show ((0 : Int) != 0) = false from rfl, cond_false]
    rw [hS7]
    simp only [Option.bind_some, v_size2]
    rw [show decide ((8 : Int) < ((9 : Nat) : Int)) = true from rfl]
    simp only [cond_true, wal_run, wal_Open_c1]
    rw [truncate_f _ 200 _ _ _ (bdA _) (lwA _) (by omega), v_tru]
    simp only [Option.bind_some, show ((0 : Int) != 0) = false from rfl, cond_false, wal_Open_c2]
    rw [sync_f _ 200 _ _ (bdA _) (lwA _) (by omega), v_syn]
    rfl
  have hR : disk_Read (m + 8) (dA ⟨fA, 8⟩) wN = some (fA, 0) := by rw [read_d _ 200 _ _ (bdA _) (by omega), v_rd2]
  show lookoutlaw23_awake ((m + 8) + 1) = _
  simp only [lookoutlaw23_awake]
  rw [hF]
  simp only [Option.bind_some, v_size]
  rw [show decide (8 + 1 ≤ 9223372036854775807) = true from rfl]
  simp only [cond_true]
  rw [hS]
  simp only [Option.bind_some, disk_New]
  rw [show (⟨#[119]⟩ : ByteArray) = wN from rfl, hC]
  simp only [Option.bind_some]
  rw [hA]
  simp only [Option.bind_some]
  rw [hO]
  simp only [Option.bind_some]
  rw [hR]
  simp only [Option.bind_some]
  rw [eqS _ [⟨#[97, 98, 99]⟩] (by simp) (by simp), v_pre, sEq_eq, decide_eq_true rfl]
  rfl

/-! ### Sizes -/
theorem gs_l0 (n : Nat) (p : List ByteArray) (hp : p.length ≤ 9223372036854775807) : ∀ (k i m : Nat) (s : Int), i + k = p.length → k < m →
    ∃ b, lookoutref23_GreatStrings_l0 n p m s (i : Int) = some b ∧ (b = false → (∀ x ∈ p.drop i, x.size ≤ 2000) ∧ p.length ≤ 20)
  | _, i, 0, s, h, hk => by omega
  | 0, i, m + 1, s, h, hk => by
    simp only [lookoutref23_GreatStrings_l0]
    rw [decide_eq_false (show ¬ (i : Int) < (p.length : Int) by omega), List.drop_eq_nil_of_le (by omega)]
    simp only [cond_false, lookoutref23_GreatStrings_s1]
    by_cases c : p.length ≤ 20
    · rw [decide_eq_false (show ¬ (p.length : Int) > 20 by omega)]
      exact ⟨_, rfl, fun _ => ⟨by simp, c⟩⟩
    · rw [decide_eq_true (show (p.length : Int) > 20 by omega)]
      exact ⟨true, rfl, fun h => by cases h⟩
  | k + 1, i, m + 1, s, h, hk => by
    have h1 : i < p.length := by omega
    simp only [lookoutref23_GreatStrings_l0]
    rw [dec_in i p.length h1, decide_eq_true (show (i : Int) < (p.length : Int) by omega), toNat_c, getS p i h1, wr1 i (by omega)]
    simp only [cond_true]
    rw [List.drop_eq_getElem_cons h1]
    by_cases c : p[i].size ≤ 2000
    · rw [decide_eq_false (show ¬ (p[i].size : Int) > 2000 by omega)]
      obtain ⟨b, g1, g2⟩ := gs_l0 n p hp k (i + 1) m (IntKind.wrap .i64 (s + (p[i].size : Int))) (by omega) (by omega)
      exact ⟨b, g1, fun hb => ⟨List.forall_mem_cons.2 ⟨c, (g2 hb).1⟩, (g2 hb).2⟩⟩
    · rw [decide_eq_true (show (p[i].size : Int) > 2000 by omega)]
      exact ⟨true, rfl, fun h => by cases h⟩
def Few (l : List ByteArray) : Prop := (∀ x ∈ l, x.size ≤ 2000) ∧ l.length ≤ 20
theorem gs_eq (n : Nat) (p : List ByteArray) (hp : p.length ≤ 9223372036854775807) (hn : p.length + 2 ≤ n) : ∃ b, lookoutref23_GreatStrings n p = some b ∧ (b = false → Few p) := by
  obtain ⟨m, rfl⟩ : ∃ m, n = m + 1 := ⟨n - 1, by omega⟩
  obtain ⟨b, g1, g2⟩ := gs_l0 m p hp p.length 0 m 0 (by omega) (by omega)
  exact ⟨b, g1, fun hb => by have := g2 hb; rw [List.drop_zero] at this; exact this⟩
theorem great_data0 (n : Nat) (d : GDisk) (hI : d.Inodes.length ≤ 1000000000) : ∀ (k i m : Nat) (s : Int), i + k = d.Inodes.length → lookoutref22_Great_l0 n d m s (i : Int) = some false → ∀ x ∈ d.Inodes.drop i, x.Data.size ≤ 20000
  | _, i, 0, _, _, h => by simp [lookoutref22_Great_l0] at h
  | 0, i, m + 1, s, h, _ => by rw [List.drop_eq_nil_of_le (by omega)]; intro x hx; simp at hx
  | k + 1, i, m + 1, s, h, h2 => by
    rw [getD_drop (d := dGInode) (show i < d.Inodes.length by omega)]
    generalize hx : d.Inodes.getD i dGInode = x at *
    simp only [lookoutref22_Great_l0, show (i : Int) < (d.Inodes.length : Int) by omega, show (0 : Int) ≤ (i : Int) by omega, decide_true, Bool.and_true, cond_true, toNat_c, wr1 i (by omega), hx] at h2
    by_cases c1 : (x.Data.size : Int) > 20000
    · simp only [c1, decide_true, cond_true] at h2; simp at h2
    · simp only [c1, decide_false, cond_false] at h2
      have ih := great_data0 n d hI k (i + 1) m _ (by omega) h2
      intro y hy
      rcases List.mem_cons.1 hy with rfl | hy
      · omega
      · exact ih y hy
theorem great_data (n : Nat) (d : GDisk) (h : lookoutref22_Great n d = some false) : ∀ x ∈ d.Inodes, x.Data.size ≤ 20000 := by
  cases n with
  | zero => simp [lookoutref22_Great] at h
  | succ n =>
    simp only [lookoutref22_Great] at h
    by_cases c1 : (d.Inodes.length : Int) > 40
    · simp only [c1, decide_true, cond_true] at h; simp at h
    · by_cases c2 : (d.Durable.length : Int) > 40
      · simp only [c1, c2, decide_true, decide_false, cond_true, cond_false] at h; simp at h
      · by_cases c3 : (d.Pending.length : Int) > 40
        · simp only [c1, c2, c3, decide_true, decide_false, cond_true, cond_false] at h; simp at h
        · simp only [c1, c2, c3, decide_false, cond_false] at h
          have := great_data0 n d (by omega) d.Inodes.length 0 n 0 (by omega) h
          simpa using this
theorem rdF_size {d : GDisk} {name : ByteArray} (h : ∀ x ∈ d.Inodes, x.Data.size ≤ 20000) : (rdF d name).1.size ≤ 20000 := by
  unfold rdF
  cases (fnd d name).2 == 0 with
  | false => exact Nat.zero_le _
  | true =>
    simp only [cond_true]
    rcases Nat.lt_or_ge (fnd d name).1.toNat d.Inodes.length with hi | hi
    · have : d.Inodes.getD (fnd d name).1.toNat dGInode = d.Inodes[(fnd d name).1.toNat] := by simp [List.getD, hi]
      rw [this]; exact h _ (List.getElem_mem hi)
    · have : d.Inodes.getD (fnd d name).1.toNat dGInode = dGInode := by simp [List.getD, List.getElem?_eq_none hi]
      rw [this]; exact Nat.zero_le _
theorem frms_few : ∀ (l : List ByteArray), (∀ s ∈ l, s.size ≤ 2000) → (frms (l.map ky)).length ≤ 2007 * l.length
  | [], _ => by simp [frms]
  | s :: l, h => by
    have h1 := frms_few l (fun s hs => h s (by simp [hs]))
    have h2 := h s (by simp)
    have h3 := enc_len3 s.size (by omega)
    have h4 := frm_len (ky s)
    rw [ky_len] at h4
    simp only [List.map_cons, frms, List.length_append, List.length_cons]
    omega

/-! ### Check -/
def chkF (w : GWal) : Int := if (rdF w.Disk w.Name).2 = 0 ∧ w.Size = ((rdF w.Disk w.Name).1.size : Int) ∧ ky (rdF w.Disk w.Name).1 = frms (w.Records.map ky) then 0 else 1
theorem cut_eq (n : Nat) (s : ByteArray) (p : List UInt8) (hn : 4 ≤ n) : strings_CutPrefix n s (bs p) = some (if p.length ≤ s.size ∧ (ky s).take p.length = p then (bs ((ky s).drop p.length), true) else (s, false)) := by
  obtain ⟨m, rfl⟩ : ∃ m, n = m + 3 := ⟨n - 3, by omega⟩
  simp only [strings_CutPrefix, stringslite_CutPrefix, stringslite_HasPrefix, bs_size]
  by_cases h : p.length ≤ s.size
  · rw [dec3z p.length s.size h, dec3 p.length s.size s.size h (by omega), decide_eq_true (show (s.size : Int) ≥ (p.length : Int) by omega), sEq_eq]
    simp only [cond_true, Option.bind_some]
    have he : (ByteArray.extract s 0 p.length = bs p) ↔ (ky s).take p.length = p := by
      constructor
      · intro e
        have := congrArg ky e
        rw [ky_ext, ky_bs, List.drop_zero] at this; exact this
      · intro e; apply ky_inj; rw [ky_ext, ky_bs, List.drop_zero]; exact e
    by_cases h2 : (ky s).take p.length = p
    · rw [if_pos ⟨h, h2⟩, decide_eq_true (he.2 h2)]
      simp only [Bool.not_true, cond_false, cond_true, Option.bind_some]
      have : ByteArray.extract s p.length s.size = bs ((ky s).drop p.length) := by apply ky_inj; rw [ky_tail, ky_bs]
      rw [this]
    · rw [if_neg (fun x => h2 x.2), decide_eq_false (fun x => h2 (he.1 x))]; rfl
  · rw [decide_eq_false (show ¬ (s.size : Int) ≥ (p.length : Int) by omega), if_neg (fun x => h x.1)]; rfl
theorem chk_l0 (n : Nat) (w : GWal) (hr : Few w.Records) (hn : 9000 ≤ n) : ∀ (k i m : Nat) (s : ByteArray), i + k = w.Records.length → k < m →
    wal_Check_l0 n w m s (w.Records.length : Int) (i : Int) = some (if ky s = frms ((w.Records.drop i).map ky) then 0 else 1)
  | _, i, 0, s, h, hk => by omega
  | 0, i, m + 1, s, h, hk => by
    simp only [wal_Check_l0]
    rw [decide_eq_false (show ¬ (i : Int) < (w.Records.length : Int) by omega), List.drop_eq_nil_of_le (by omega)]
    simp only [cond_false, wal_Check_s1, sNe_eq, List.map_nil, frms]
    have : (s = bE) ↔ ky s = [] := ⟨fun e => by rw [e]; rfl, fun e => ky_inj (by rw [e]; rfl)⟩
    by_cases e : ky s = []
    · rw [if_pos e, decide_eq_true (this.2 e)]; rfl
    · rw [if_neg e, decide_eq_false (fun x => e (this.1 x))]; rfl
  | k + 1, i, m + 1, s, h, hk => by
    have h1 : i < w.Records.length := by omega
    have hl := hr.2
    have hz := hr.1 w.Records[i] (List.getElem_mem h1)
    simp only [wal_Check_l0]
    rw [dec_in i w.Records.length h1, decide_eq_true (show (i : Int) < (w.Records.length : Int) by omega), toNat_c, getS _ i h1, wr1 i (by omega), decide_eq_false (show ¬ (w.Records[i].size : Int) > 262144 by omega), Frame_eq n _ (by omega) (by omega)]
    simp only [cond_true, cond_false, Option.bind_some]
    rw [cut_eq n _ _ (by omega)]
    simp only [Option.bind_some]
    rw [List.drop_eq_getElem_cons h1]
    simp only [List.map_cons, frms]
    generalize frm (ky w.Records[i]) = p
    by_cases c : p.length ≤ s.size ∧ (ky s).take p.length = p
    · rw [if_pos c]
      simp only [Bool.not_true, cond_false]
      rw [chk_l0 n w hr hn k (i + 1) m _ (by omega) (by omega), ky_bs]
      have hs := List.take_append_drop p.length (ky s)
      rw [c.2] at hs
      have : ((ky s).drop p.length = frms ((w.Records.drop (i + 1)).map ky)) ↔ ky s = p ++ frms ((w.Records.drop (i + 1)).map ky) := by
        constructor
        · intro e; rw [← e]; exact hs.symm
        · intro e; rw [e]; simp
      by_cases e : (ky s).drop p.length = frms ((w.Records.drop (i + 1)).map ky)
      · rw [if_pos e, if_pos (this.1 e)]
      · rw [if_neg e, if_neg (fun x => e (this.2 x))]
    · rw [if_neg c]
      simp only [Bool.not_false, cond_true]
      rw [if_neg (fun e => c ?_)]
      rw [e]
      exact ⟨by rw [← ky_len, e, List.length_append]; omega, by simp⟩
theorem check_d (n : Nat) (w : GWal) (hb : Bd 200 w.Disk) (hr : Few w.Records) (hn : 10000 ≤ n) : wal_Check n w = some (chkF w) := by
  obtain ⟨m, rfl⟩ : ∃ m, n = m + 1 := ⟨n - 1, by omega⟩
  have hl := hr.2
  simp only [wal_Check]
  rw [show (⟨w.Disk.Inodes, w.Disk.Durable, w.Disk.Pending, w.Disk.Left⟩ : GDisk) = w.Disk from rfl, read_d m 200 _ _ hb (by omega)]
  simp only [Option.bind_some]
  unfold chkF
  by_cases e : (rdF w.Disk w.Name).2 = 0
  · rw [eq0 e]
    simp only [cond_false]
    by_cases e2 : w.Size = ((rdF w.Disk w.Name).1.size : Int)
    · rw [show (w.Size != ((rdF w.Disk w.Name).1.size : Int)) = false by simpa using e2]
      simp only [cond_false]
      have := chk_l0 m w hr (by omega) w.Records.length 0 m (rdF w.Disk w.Name).1 (by omega) (by omega)
      rw [List.drop_zero] at this
      refine Eq.trans this ?_
      by_cases e3 : ky (rdF w.Disk w.Name).1 = frms (w.Records.map ky)
      · rw [if_pos e3, if_pos ⟨e, e2, e3⟩]
      · rw [if_neg e3, if_neg (fun x => e3 x.2.2)]
    · rw [show (w.Size != ((rdF w.Disk w.Name).1.size : Int)) = true by simpa using e2, if_neg (fun x => e2 x.2.1)]; rfl
  · rw [ne0 e, if_neg (fun x => e x.1)]; rfl
theorem bs_ky_map (l : List ByteArray) : (l.map ky).map bs = l := by
  rw [List.map_map]
  conv => rhs; rw [← List.map_id l]
  exact List.map_congr_left (fun s _ => bs_ky s)
theorem ky_bs_map (l : List (List UInt8)) : (l.map bs).map ky = l := by
  rw [List.map_map]
  conv => rhs; rw [← List.map_id l]
  exact List.map_congr_left (fun s _ => ky_bs s)
theorem frms_cnt (rs : List (List UInt8)) (h : ∀ r ∈ rs, r.length ≤ 262144) : rs.length ≤ (frms rs).length := by
  have := scanL_le (rs.length + 1) (frms rs)
  have h2 := scanL_app rs 1 [] h
  rw [List.append_nil, Nat.add_comm 1] at h2
  rw [h2] at this
  simp only [List.length_append] at this
  omega
theorem recs_iff (s : List UInt8) (R : List ByteArray) (hR : ∀ x ∈ R, x.size ≤ 2000) : s = frms (R.map ky) ↔ (extent s = s.length ∧ recs s = R) := by
  constructor
  · intro e
    have h' : ∀ r ∈ R.map ky, r.length ≤ 262144 := by
      intro r hr
      obtain ⟨x, h1, rfl⟩ := List.mem_map.1 hr
      rw [ky_len]; have := hR x h1; omega
    have hc := frms_cnt _ h'
    have h1 := scanL_app (R.map ky) (s.length + 1 - (R.map ky).length) [] h'
    rw [List.append_nil, ← e, show s.length + 1 - (R.map ky).length + (R.map ky).length = s.length + 1 by rw [e]; omega] at h1
    have h2 : scanL (s.length + 1 - (R.map ky).length) [] = ([], 0) := by
      cases hq : s.length + 1 - (R.map ky).length with
      | zero => rfl
      | succ q => rw [scanL]; rfl
    rw [h2] at h1
    unfold extent recs
    rw [h1]
    simp only [List.append_nil, Nat.add_zero]
    exact ⟨trivial, bs_ky_map R⟩
  · rintro ⟨e1, e2⟩
    have := scanL_frms (s.length + 1) s
    unfold extent at e1
    unfold recs at e2
    rw [e1, List.take_length] at this
    rw [← this, ← e2, ky_bs_map]
theorem rchk_l0 (n : Nat) (w : GWal) (r : List ByteArray × Int) (hl : r.1.length = w.Records.length) (hb : r.1.length ≤ 1000000) : ∀ (k i m : Nat), i + k = r.1.length → k < m →
    lookoutref23_Check_l0 n w r m (i : Int) = some (if r.1.drop i = w.Records.drop i then 0 else 1)
  | _, i, 0, h, hk => by omega
  | 0, i, m + 1, h, hk => by
    simp only [lookoutref23_Check_l0]
    rw [decide_eq_false (show ¬ (i : Int) < (r.1.length : Int) by omega), List.drop_eq_nil_of_le (by omega), List.drop_eq_nil_of_le (by omega)]
    rfl
  | k + 1, i, m + 1, h, hk => by
    have h1 : i < r.1.length := by omega
    have h2 : i < w.Records.length := by omega
    simp only [lookoutref23_Check_l0]
    rw [dec_in i r.1.length h1, dec_in i w.Records.length h2, decide_eq_true (show (i : Int) < (r.1.length : Int) by omega), toNat_c, getS _ i h1, getS _ i h2, sNe_eq, wr1 i (by omega)]
    simp only [cond_true]
    rw [List.drop_eq_getElem_cons h1, List.drop_eq_getElem_cons h2]
    by_cases e : r.1[i] = w.Records[i]
    · rw [decide_eq_true e]
      simp only [Bool.not_true, cond_false]
      rw [rchk_l0 n w r hl hb k (i + 1) m (by omega) (by omega)]
      by_cases e2 : r.1.drop (i + 1) = w.Records.drop (i + 1)
      · rw [if_pos e2, if_pos (by rw [e, e2])]
      · rw [if_neg e2, if_neg (fun x => e2 (List.cons.inj x).2)]
    · rw [decide_eq_false e, if_neg (fun x => e (List.cons.inj x).1)]; rfl
theorem check_r (n : Nat) (w : GWal) (hb : Bd 200 w.Disk) (hr : Few w.Records) (hd : ∀ x ∈ w.Disk.Inodes, x.Data.size ≤ 20000) (hn : 25000 ≤ n) : lookoutref23_Check n w = some (chkF w) := by
  obtain ⟨m, rfl⟩ : ∃ m, n = m + 1 := ⟨n - 1, by omega⟩
  have hl := hr.2
  have hz := rdF_size (name := w.Name) hd
  simp only [lookoutref23_Check]
  rw [show (⟨w.Disk.Inodes, w.Disk.Durable, w.Disk.Pending, w.Disk.Left⟩ : GDisk) = w.Disk from rfl, read_r m 200 _ _ hb (by omega)]
  simp only [Option.bind_some]
  unfold chkF
  by_cases e : (rdF w.Disk w.Name).2 = 0
  · rw [eq0 e]
    simp only [cond_false]
    by_cases e2 : w.Size = ((rdF w.Disk w.Name).1.size : Int)
    · rw [show (((rdF w.Disk w.Name).1.size : Int) != w.Size) = false by simpa using e2.symm, rScan_eq m _ (by omega) (by omega)]
      simp only [cond_false, Option.bind_some]
      have hiff := recs_iff (ky (rdF w.Disk w.Name).1) w.Records hr.1
      rw [ky_len] at hiff
      have hrl := recs_le (ky (rdF w.Disk w.Name).1)
      rw [ky_len] at hrl
      by_cases e3 : extent (ky (rdF w.Disk w.Name).1) = (rdF w.Disk w.Name).1.size
      · rw [show ((extent (ky (rdF w.Disk w.Name).1) : Int) != ((rdF w.Disk w.Name).1.size : Int)) = false by rw [e3]; simp]
        simp only [cond_false]
        by_cases e4 : (recs (ky (rdF w.Disk w.Name).1)).length = w.Records.length
        · rw [show (((recs (ky (rdF w.Disk w.Name).1)).length : Int) != (w.Records.length : Int)) = false by rw [e4]; simp]
          simp only [cond_false]
          have := rchk_l0 m w (recs (ky (rdF w.Disk w.Name).1), (extent (ky (rdF w.Disk w.Name).1) : Int)) e4 (by simp only; omega) _ 0 m (Nat.zero_add _) (by simp only; omega)
          refine Eq.trans this ?_
          simp only [List.drop_zero]
          by_cases e5 : recs (ky (rdF w.Disk w.Name).1) = w.Records
          · rw [if_pos e5, if_pos ⟨e, e2, hiff.2 ⟨e3, e5⟩⟩]
          · rw [if_neg e5, if_neg (fun x => e5 (hiff.1 x.2.2).2)]
        · rw [show (((recs (ky (rdF w.Disk w.Name).1)).length : Int) != (w.Records.length : Int)) = true by rw [bne_iff_ne]; omega, if_neg (fun x => e4 (by rw [(hiff.1 x.2.2).2]))]; rfl
      · rw [show ((extent (ky (rdF w.Disk w.Name).1) : Int) != ((rdF w.Disk w.Name).1.size : Int)) = true by rw [bne_iff_ne]; omega, if_neg (fun x => e3 (hiff.1 x.2.2).1)]; rfl
    · rw [show (((rdF w.Disk w.Name).1.size : Int) != w.Size) = true by rw [bne_iff_ne]; exact fun x => e2 x.symm, if_neg (fun x => e2 x.2.1)]; rfl
  · rw [ne0 e, if_neg (fun x => e x.1)]; rfl
end Go.Proofs.Ytkignmhjbjgkoaa
