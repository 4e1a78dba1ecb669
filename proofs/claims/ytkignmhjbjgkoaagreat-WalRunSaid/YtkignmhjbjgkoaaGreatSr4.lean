/- Plain laws of the log: WalRun: the disk of the run. -/
import Derived.Test.YtkignmhjbjgkoaaGreatSq5
import Derived.Test.YtkignmhjbjgkoaaGreatWf
set_option linter.unusedVariables false
set_option linter.unusedSimpArgs false
set_option maxRecDepth 100000
namespace Go.Proofs.YtkignmhjbjgkoaaGreat
open Go Go.AM

def nO : ByteArray := ⟨#[111, 116, 104, 101, 114]⟩
def nW : ByteArray := ⟨#[119, 97, 108, 46, 49]⟩
def cC : ByteArray := ⟨#[99, 111, 110, 116, 101, 110, 116]⟩
def dD (x : GInode) (L : Int) : GDisk := ⟨[⟨cC, 7⟩, x], [⟨nO, 0⟩, ⟨nW, 1⟩], [], L⟩
theorem bdD (x : GInode) (L : Int) : Bd 200 (dD x L) := ⟨fun y hy => by
  simp only [dD, List.mem_cons, List.not_mem_nil, or_false] at hy
  rcases hy with rfl | rfl
  · show nO.size ≤ 200
    decide
  · show nW.size ≤ 200
    decide, by simp [dD], by simp [dD], by simp [dD], by simp [dD], by omega⟩
/-- The power that is left in a run. -/
def Pw (L : Int) : Prop := -1 ≤ L ∧ L ≤ 3
theorem lwD (x : GInode) {L : Int} (h : Pw L) : Lw (dD x L) := ⟨by have := h.1; simp only [dD]; omega, by have := h.2; simp only [dD]; omega⟩
theorem v_valD : valid (dD ⟨bE, 0⟩ (-1)) = true := by kernel_rfl
theorem valD {x : GInode} {L : Int} (h : okI x = true) (hL : Pw L) : valid (dD x L) = true := valid_chg (d := dD ⟨bE, 0⟩ (-1)) (i := 1) v_valD h L hL.1
theorem fndW {x : GInode} {L : Int} (h : okI x = true) (hL : Pw L) : fnd (dD x L) nW = (1, 0) := by
  unfold fnd; rw [valD h hL]; rfl
theorem fndO {x : GInode} {L : Int} (h : okI x = true) (hL : Pw L) : fnd (dD x L) nO = (0, 0) := by
  unfold fnd; rw [valD h hL]; rfl
theorem rdW {x : GInode} {L : Int} (h : okI x = true) (hL : Pw L) : rdF (dD x L) nW = (x.Data, 0) := by
  unfold rdF; rw [fndW h hL]; rfl
theorem rdO {x : GInode} {L : Int} (h : okI x = true) (hL : Pw L) : rdF (dD x L) nO = (cC, 0) := by
  unfold rdF; rw [fndO h hL]; rfl
theorem fileW {x : GInode} {L : Int} (h : okI x = true) (hL : Pw L) : file (dD x L) nW = x := by
  unfold file ino; rw [fndW h hL]; rfl
def dn (L : Int) : Int := if L > 0 then L - 1 else L
theorem dn_pw {L : Int} (h : Pw L) : Pw (dn L) := by
  have h1 := h.1; have h2 := h.2
  unfold Pw dn; split <;> omega
theorem prfD {x y : GInode} {L : Int} (h : okI x = true) (hL : Pw L) : prf (dD x L) (chg (dD x L) (ino (dD x L) nW) y) = if L = 0 then (dD x L, 19) else (dD y (dn L), 0) := by
  unfold prf ino; rw [fndW h hL]; rfl
theorem appD {x : GInode} {L : Int} (S : ByteArray) (h : okI x = true) (hL : Pw L) (hs : x.Data.size + S.size ≤ 1048576) : appF (dD x L) nW S = if L = 0 then (dD x L, 19) else (dD ⟨x.Data ++ S, x.Synced⟩ (dn L), 0) := by
  unfold appF
  rw [fndW h hL, fileW h hL, if_neg (by simp), if_neg (by omega), prfD h hL]
theorem synD {x : GInode} {L : Int} (h : okI x = true) (hL : Pw L) : synF (dD x L) nW = if L = 0 then (dD x L, 19) else (dD ⟨x.Data, (x.Data.size : Int)⟩ (dn L), 0) := by
  unfold synF
  rw [fndW h hL, fileW h hL, if_neg (by simp), prfD h hL]
theorem truD {x : GInode} {L : Int} (z : Nat) (h : okI x = true) (hL : Pw L) (hz : z ≤ x.Data.size) : truF (dD x L) nW (z : Int) = if L = 0 then (dD x L, 19) else (dD ⟨x.Data.extract 0 z, if (z : Int) < x.Synced then (z : Int) else x.Synced⟩ (dn L), 0) := by
  unfold truF
  rw [fndW h hL, fileW h hL, if_neg (by simp), if_neg (by omega), if_neg (by omega), prfD h hL]; rfl
theorem okI_iff {x : GInode} : okI x = true ↔ x.Data.size ≤ 1048576 ∧ 0 ≤ x.Synced ∧ x.Synced ≤ (x.Data.size : Int) := by
  simp only [okI, Bool.and_eq_true, decide_eq_true_eq]
theorem crD_ {x : GInode} {L : Int} (picks : List Int) (h : okI x = true) (hL : Pw L) : ∃ k : Nat, x.Synced ≤ (k : Int) ∧ k ≤ x.Data.size ∧ crF (dD x L) picks = dD ⟨x.Data.extract 0 k, (k : Int)⟩ (-1) := by
  obtain ⟨h1, h2, h3⟩ := okI_iff.1 h
  have hp := pk_in picks 2 ((x.Data.size : Int) - x.Synced + 1) (by omega)
  have hp0 := pk_in picks 1 (((cC.size : Nat) : Int) - 7 + 1) (by show (0 : Int) < 7 - 7 + 1; omega)
  have hc : ((cC.size : Nat) : Int) - 7 + 1 = 1 := rfl
  rw [hc] at hp0
  have hk0 : kept (dD x L) picks (dD x L).Durable 0 = 7 := by
    show (7 : Int) + pk picks 1 (((cC.size : Nat) : Int) - 7 + 1) = 7
    rw [hc]; omega
  have hk1 : kept (dD x L) picks (dD x L).Durable 1 = x.Synced + pk picks 2 ((x.Data.size : Int) - x.Synced + 1) := rfl
  refine ⟨(x.Synced + pk picks 2 ((x.Data.size : Int) - x.Synced + 1)).toNat, by omega, by omega, ?_⟩
  have hdir : crDir (dD x L) picks = (dD x L).Durable := by
    show (aft _ (([] : List GDirOp).take _) _).1 = _
    rw [List.take_nil]; rfl
  unfold crF
  rw [valD h hL, hdir]
  show (⟨crI (dD x L) picks (dD x L).Durable 0 2, crD (dD x L).Durable 0 2, [], -1⟩ : GDisk) = _
  simp only [crI, crD]
  rw [hk0, hk1]
  have e1 : ByteArray.extract ((dD x L).Inodes.getD ((dD x L).Durable.getD 0 dGDirEntry).Inode.toNat dGInode).Data 0 (7 : Int).toNat = cC := by
    apply ky_inj; rfl
  rw [e1]
  have e2 : (((x.Synced + pk picks 2 ((x.Data.size : Int) - x.Synced + 1)).toNat : Nat) : Int) = x.Synced + pk picks 2 ((x.Data.size : Int) - x.Synced + 1) := by omega
  unfold dD
  rw [e2]
  rfl
end Go.Proofs.YtkignmhjbjgkoaaGreat

/- Plain laws of the log: WalRun: what is appended, checked, opened on the disk of the run. -/
set_option linter.unusedVariables false
set_option linter.unusedSimpArgs false
set_option maxRecDepth 100000
namespace Go.Proofs.YtkignmhjbjgkoaaGreat
open Go Go.AM

structure Sm (l : List ByteArray) : Prop where
  sz : ∀ s ∈ l, s.size ≤ 100
  len : l.length ≤ 100
theorem Sm.fr {l : List ByteArray} (h : Sm l) : (frms (l.map ky)).length ≤ 10700 := by
  have h1 := frms_small l h.sz
  have h2 := h.len
  omega
theorem fr_size (l : List ByteArray) : (fr l).size = (frms (l.map ky)).length := by rw [← ky_len, fr_ky]
theorem Sm.frs {l : List ByteArray} (h : Sm l) : (Go.Proofs.YtkignmhjbjgkoaaGreat.fr l).size ≤ 10700 := by rw [fr_size]; exact h.fr
theorem fr_app (a b : List ByteArray) : fr (a ++ b) = fr a ++ fr b := by
  apply ky_inj
  rw [ky_app, fr_ky, fr_ky, fr_ky, List.map_append, frms_app]
theorem chk_sm (n : Nat) (w : GWal) (h : Sm w.Records) (hn : 9000 ≤ n) : ∀ (k i m : Nat) (s : ByteArray), i + k = w.Records.length → k < m → ky s = frms ((w.Records.drop i).map ky) →
    wal_Check_l0 n w m s (w.Records.length : Int) (i : Int) = some 0
  | _, i, 0, s, h2, hk, hs => by omega
  | 0, i, m + 1, s, h2, hk, hs => by
    simp only [wal_Check_l0]
    rw [decide_eq_false (show ¬ (i : Int) < (w.Records.length : Int) by omega)]
    rw [List.drop_eq_nil_of_le (by omega)] at hs
    have : s = bE := ky_inj (by rw [hs]; rfl)
    simp only [cond_false, wal_Check_s1, sNe_eq, decide_eq_true this]
    rfl
  | k + 1, i, m + 1, s, h2, hk, hs => by
    have h1 : i < w.Records.length := by omega
    have hl := h.len
    have hz := h.sz w.Records[i] (List.getElem_mem h1)
    rw [List.drop_eq_getElem_cons h1] at hs
    simp only [List.map_cons, frms] at hs
    simp only [wal_Check_l0]
    rw [dec_in i w.Records.length h1, decide_eq_true (show (i : Int) < (w.Records.length : Int) by omega), toNat_c, getS _ i h1, wr1 i (by omega), decide_eq_false (show ¬ (w.Records[i].size : Int) > 262144 by omega), Frame_eq n _ (by omega) (by omega)]
    simp only [cond_true, cond_false, Option.bind_some]
    rw [cut_eq n _ _ (by omega)]
    simp only [Option.bind_some]
    rw [if_pos ⟨by rw [← ky_len, hs, List.length_append]; omega, by rw [hs]; simp⟩]
    simp only [Bool.not_true, cond_false]
    exact chk_sm n w h hn k (i + 1) m _ (by omega) (by omega) (by rw [ky_bs, hs]; simp)
theorem check_w (n : Nat) {x : GInode} {L : Int} {l : List ByteArray} (h : okI x = true) (hL : Pw L) (hd : x.Data = fr l) (hl : Sm l) (hn : 10000 ≤ n) : wal_Check n ⟨dD x L, nW, (x.Data.size : Int), l⟩ = some 0 := by
  obtain ⟨m, rfl⟩ : ∃ m, n = m + 1 := ⟨n - 1, by omega⟩
  simp only [wal_Check]
  rw [show (⟨(dD x L).Inodes, (dD x L).Durable, (dD x L).Pending, (dD x L).Left⟩ : GDisk) = dD x L from rfl, read_d _ 200 _ _ (bdD _ _) (by omega), rdW h hL]
  simp only [Option.bind_some]
  rw [show ((0 : Int) != 0) = false from rfl, bne_self_eq_false]
  simp only [cond_false]
  have hcb := chk_sm m ⟨dD x L, nW, (x.Data.size : Int), l⟩ hl (by omega) l.length 0 m x.Data (by simp) (by have := hl.len; omega) (by rw [List.drop_zero, hd, fr_ky])
  rw [Int.natCast_zero] at hcb
  exact hcb
theorem l4_sm (n : Nat) (w : GWal) (l : List ByteArray) (h : Sm l) : ∀ (k i m : Nat), i + k = l.length → k < m →
    wal_Append_l4 n l w m (l.length : Int) (i : Int) = wal_Append_s5 n l w
  | _, i, 0, h2, hk => by omega
  | 0, i, m + 1, h2, hk => by
    simp only [wal_Append_l4]
    rw [decide_eq_false (show ¬ (i : Int) < (l.length : Int) by omega)]; rfl
  | k + 1, i, m + 1, h2, hk => by
    have h1 : i < l.length := by omega
    have hl := h.len
    have hx := h.sz l[i] (List.getElem_mem h1)
    simp only [wal_Append_l4]
    rw [dec_in i l.length h1, decide_eq_true (show (i : Int) < (l.length : Int) by omega), toNat_c, getS _ i h1, wr1 i (by omega), decide_eq_false (show ¬ (l[i].size : Int) > 262144 by omega)]
    simp only [cond_true, cond_false]
    exact l4_sm n w l h k (i + 1) m (by omega) (by omega)
theorem Sm.take {l : List ByteArray} (h : Sm l) (i : Nat) : Sm (l.take i) := ⟨fun s hs => h.sz s (List.mem_of_mem_take hs), by rw [List.length_take]; have := h.len; omega⟩
theorem l6_sm (n : Nat) (w : GWal) (l : List ByteArray) (h : Sm l) (hz : 0 ≤ w.Size ∧ w.Size ≤ 20000) (hn : 9000 ≤ n) : ∀ (k i m : Nat), i + k = l.length → k < m →
    wal_Append_l6 n l w m (l.length : Int) (i : Int) (fr (l.take i)) = wal_Append_s7 n l w (fr l)
  | _, i, 0, h2, hk => by omega
  | 0, i, m + 1, h2, hk => by
    simp only [wal_Append_l6]
    rw [decide_eq_false (show ¬ (i : Int) < (l.length : Int) by omega), List.take_of_length_le (by omega)]; rfl
  | k + 1, i, m + 1, h2, hk => by
    have h1 : i < l.length := by omega
    have hl := h.len
    have hx := h.sz l[i] (List.getElem_mem h1)
    have hs := (h.take (i + 1)).frs
    obtain ⟨q, rfl⟩ : ∃ q, n = q + 1 := ⟨n - 1, by omega⟩
    simp only [wal_Append_l6]
    rw [dec_in i l.length h1, decide_eq_true (show (i : Int) < (l.length : Int) by omega), toNat_c, getS _ i h1, wr1 i (by omega), Frame_eq _ _ (by omega) (by omega)]
    simp only [cond_true, Option.bind_some, bWrite]
    have hsz : (fr (l.take i)).size + (bs (frm (ky l[i]))).size = (fr (l.take (i + 1))).size := by rw [← ByteArray.size_append, fr_snoc l i h1]
    rw [hsz, decide_eq_true (show (fr (l.take (i + 1))).size ≤ 140737488355328 by omega), fr_snoc l i h1]
    simp only [cond_true, Option.bind_some]
    rw [wr _ (by omega) (by omega), decide_eq_false (show ¬ ((fr (l.take (i + 1))).size : Int) > 1048576 - w.Size by omega)]
    simp only [cond_false]
    exact l6_sm (q + 1) w l h hz hn k (i + 1) m (by omega) (by omega)
/-- What an Append leaves. -/
def apW (x : GInode) (L : Int) (l a : List ByteArray) : GWal × Int :=
  if a = [] then (⟨dD x L, nW, (x.Data.size : Int), l⟩, 0)
  else if dn L = 0 then (⟨dD ⟨x.Data ++ fr a, x.Synced⟩ 0, nW, (x.Data.size : Int), l⟩, 19)
  else (⟨dD ⟨x.Data ++ fr a, ((x.Data ++ fr a).size : Int)⟩ (dn (dn L)), nW, ((x.Data ++ fr a).size : Int), l ++ a⟩, 0)
theorem s7_w (n : Nat) {x : GInode} {L : Int} {l a : List ByteArray} (h : okI x = true) (hL : Pw L) (h0 : L ≠ 0) (hz : x.Data.size ≤ 20000) (hl : Sm l) (ha : Sm a) (hne : a ≠ []) (hp : 1 ≤ (fr a).size) (hn : 10000 ≤ n) :
    wal_Append_s7 n a ⟨dD x L, nW, (x.Data.size : Int), l⟩ (fr a) = some (apW x L l a) := by
  obtain ⟨m, rfl⟩ : ∃ m, n = m + 5 := ⟨n - 5, by omega⟩
  have hfs := ha.frs
  have hll := hl.len
  have hal := ha.len
  obtain ⟨o1, o2, o3⟩ := okI_iff.1 h
  have hsz : (x.Data ++ fr a).size = x.Data.size + (fr a).size := ByteArray.size_append ..
  have hok : okI ⟨x.Data ++ fr a, x.Synced⟩ = true := okI_iff.2 ⟨by simp only; rw [hsz]; omega, o2, by simp only; rw [hsz]; omega⟩
  have hclip : slices_Clip_52 (m + 5) l = some l := by
    simp only [slices_Clip_52]
    rw [dec3z l.length l.length (by omega)]
    simp
  have hroom : (true && (decide ((l.length + a.length) * 16 ≤ 140737488355328) && decide (l.length + a.length ≤ 9223372036854775807))) = true := by
    rw [decide_eq_true (show (l.length + a.length) * 16 ≤ 140737488355328 by omega), decide_eq_true (show l.length + a.length ≤ 9223372036854775807 by omega)]; rfl
  simp only [wal_Append_s7, wal_run_v3, wal_Append_c1]
  rw [show (⟨(dD x L).Inodes, (dD x L).Durable, (dD x L).Pending, (dD x L).Left⟩ : GDisk) = dD x L from rfl, decide_eq_true hp, append_f _ 200 _ _ _ (bdD _ _) (lwD _ hL) (by omega) (by omega), appD _ h hL (by omega), if_neg h0]
  simp only [cond_true, Option.bind_some]
  rw [show ((0 : Int) != 0) = false from rfl]
  simp only [cond_false, wal_Append_c2]
  rw [sync_f _ 200 _ _ (bdD _ _) (lwD _ (dn_pw hL)) (by omega), synD hok (dn_pw hL)]
  unfold apW
  rw [if_neg hne]
  by_cases h1 : dn L = 0
  · rw [if_pos h1, if_pos h1, h1]
    rfl
  · rw [if_neg h1, if_neg h1]
    simp only [Option.bind_some]
    rw [show ((0 : Int) != 0) = false from rfl]
    simp only [cond_false, Option.bind_some]
    rw [show ((0 : Int) != 0) = false from rfl, show ((0 : Int) == 19) = false from rfl, hclip]
    simp only [cond_false, Option.bind_some]
    rw [hroom, wr _ (by omega) (by omega), hsz]
    rfl
theorem append_w (n : Nat) {x : GInode} {L : Int} {l a : List ByteArray} (h : okI x = true) (hL : Pw L) (h0 : L ≠ 0) (hd : x.Data = fr l) (hl : Sm l) (ha : Sm a) (hn : 30000 ≤ n) :
    wal_Append n ⟨dD x L, nW, (x.Data.size : Int), l⟩ a = some (apW x L l a) := by
  obtain ⟨m, rfl⟩ : ∃ m, n = m + 1 := ⟨n - 1, by omega⟩
  have hal := ha.len
  have hxs : x.Data.size ≤ 10700 := by rw [hd]; exact hl.frs
  simp only [wal_Append]
  rw [show (⟨⟨(dD x L).Inodes, (dD x L).Durable, (dD x L).Pending, (dD x L).Left⟩, nW, (x.Data.size : Int), l⟩ : GWal) = ⟨dD x L, nW, (x.Data.size : Int), l⟩ from rfl, check_w m h hL hd hl (by omega)]
  simp only [Option.bind_some]
  rw [show ((0 : Int) != 0) = false from rfl]
  simp only [cond_false]
  by_cases c : a = []
  · subst c; rfl
  · have hp : 1 ≤ (fr a).size := by
      rw [fr_size]
      cases a with
      | nil => exact absurd rfl c
      | cons s a =>
        simp only [List.map_cons, frms, List.length_append]
        unfold frm
        rw [List.length_append, List.length_append, four_len]
        omega
    rw [show ((a.length : Int) == 0) = false by rw [beq_eq_false_iff_ne]; have := List.length_pos_iff.2 c; omega]
    simp only [cond_false]
    have e4 := l4_sm m ⟨dD x L, nW, (x.Data.size : Int), l⟩ a ha a.length 0 m (by omega) (by omega)
    rw [Int.natCast_zero] at e4
    rw [e4]
    simp only [wal_Append_s5]
    have e6 := l6_sm m ⟨dD x L, nW, (x.Data.size : Int), l⟩ a ha ⟨by simp only; omega, by simp only; omega⟩ (by omega) a.length 0 m (by omega) (by omega)
    rw [Int.natCast_zero, List.take_zero, show fr [] = bE from rfl] at e6
    rw [e6]
    exact s7_w m h hL h0 (by omega) hl ha c hp (by omega)
theorem open_w (n : Nat) (s : ByteArray) (hs : s.size ≤ 20000) (hn : 25000 ≤ n) :
    wal_Open n (dD ⟨s, (s.size : Int)⟩ (-1)) nW = some (⟨dD ⟨s.extract 0 (extent (ky s)), (extent (ky s) : Int)⟩ (-1), nW, (extent (ky s) : Int), recs (ky s)⟩, 0) := by
  obtain ⟨m, rfl⟩ : ∃ m, n = m + 6 := ⟨n - 6, by omega⟩
  have hL : Pw (-1) := ⟨by omega, by omega⟩
  have hok : okI ⟨s, (s.size : Int)⟩ = true := okI_iff.2 ⟨by simp only; omega, by simp only; omega, Int.le_refl _⟩
  have he : extent (ky s) ≤ s.size := by have := extent_le (ky s); rwa [ky_len] at this
  simp only [wal_Open]
  rw [read_d _ 200 _ _ (bdD _ _) (by omega), rdW hok hL]
  simp only [Option.bind_some]
  rw [show ((0 : Int) != 0) = false from rfl]
  simp only [cond_false]
  rw [Scan_eq _ _ (by omega) (by omega)]
  simp only [Option.bind_some]
  generalize hE : extent (ky s) = E at *
  by_cases c : E < s.size
  · have hex : (s.extract 0 E).size = E := ext_size s 0 E (by omega) he
    have hok2 : okI ⟨s.extract 0 E, (E : Int)⟩ = true := okI_iff.2 ⟨by simp only; omega, by simp only; omega, by simp only; omega⟩
    rw [decide_eq_true (show (E : Int) < (s.size : Int) by omega)]
    simp only [cond_true, wal_run, wal_Open_c1]
    rw [truncate_f _ 200 _ _ _ (bdD _ _) (lwD _ hL) (by omega), truD E hok hL he, if_neg (by omega)]
    simp only [Option.bind_some]
    rw [show ((0 : Int) != 0) = false from rfl, if_pos (show (E : Int) < (s.size : Int) by omega)]
    simp only [cond_false, wal_Open_c2]
    rw [show dn (-1) = -1 from rfl, sync_f _ 200 _ _ (bdD _ _) (lwD _ hL) (by omega), synD hok2 hL, if_neg (by omega)]
    simp only [Option.bind_some, hex]
    rfl
  · have hee : E = s.size := by omega
    have hex : s.extract 0 E = s := by apply ky_inj; rw [ky_ext, hee, List.drop_zero, Nat.sub_zero, List.take_of_length_le (by rw [ky_len]; omega)]
    rw [decide_eq_false (show ¬ (E : Int) < (s.size : Int) by omega), hex]
    simp only [cond_false, wal_run_v1, Option.bind_some]
    rw [show ((0 : Int) != 0) = false from rfl, hee]
    rfl
end Go.Proofs.YtkignmhjbjgkoaaGreat

/- Plain laws of the log: WalRun, the law. -/
set_option linter.unusedVariables false
set_option linter.unusedSimpArgs false
set_option maxRecDepth 100000
namespace Go.Proofs.YtkignmhjbjgkoaaGreat
open Go Go.AM

theorem Sm.app {a b : List ByteArray} (h : Sm (a ++ b)) : Sm a ∧ Sm b := by
  have := h.len
  rw [List.length_append] at this
  exact ⟨⟨fun s hs => h.sz s (List.mem_append.2 (.inl hs)), by omega⟩, ⟨fun s hs => h.sz s (List.mem_append.2 (.inr hs)), by omega⟩⟩
/-- What is read of a part of the frames that has those of the first records. -/
theorem part_w (l u : List ByteArray) (k : Nat) (h : Sm (l ++ u)) (h1 : (fr l).size ≤ k) (h2 : k ≤ (fr (l ++ u)).size) :
    ∃ t v, u = t ++ v ∧ recs ((frms ((l ++ u).map ky)).take k) = l ++ t ∧ extent ((frms ((l ++ u).map ky)).take k) = (fr (l ++ t)).size ∧ (fr (l ++ t)).size ≤ k := by
  rw [fr_size] at h1 h2
  obtain ⟨T, U, e1, e2, e3, e4, e5⟩ := recs_part (l ++ u) k (fun s hs => by have := h.sz s hs; omega) h2
  have hle : l.length ≤ T.length := by
    rcases Nat.lt_or_ge T.length l.length with hlt | hge
    · exfalso
      have hT : T = l.take T.length := by
        have := congrArg (List.take T.length) e1
        rw [List.take_left, List.take_append_of_le_length (by omega)] at this
        exact this.symm
      have hU : U = l[T.length] :: (l.drop (T.length + 1) ++ u) := by
        have := congrArg (List.drop T.length) e1
        rw [List.drop_left, List.drop_append_of_le_length (by omega), List.drop_eq_getElem_cons hlt] at this
        exact this.symm
      have h6 := e5 _ _ hU
      have h7 : (frms (T.map ky)).length + (frm (ky l[T.length])).length ≤ (frms (l.map ky)).length := by
        have h8 : frms (T.map ky) ++ frm (ky l[T.length]) = frms ((l.take (T.length + 1)).map ky) := by
          rw [List.take_succ_eq_append_getElem hlt, List.map_append, frms_app, ← hT]
          simp [frms]
        have h9 := frms_take_le (l.map ky) (T.length + 1)
        rw [← List.map_take, ← h8, List.length_append] at h9
        exact h9
      omega
    · exact hge
  have hT : T = l ++ T.drop l.length := by
    have := congrArg (List.take l.length) e1
    rw [List.take_left, List.take_append_of_le_length hle] at this
    conv => lhs; rw [← List.take_append_drop l.length T, ← this]
  refine ⟨T.drop l.length, U, ?_, by rw [← hT]; exact e2, by rw [← hT, fr_size]; exact e3, by rw [← hT, fr_size]; exact e4⟩
  have e6 := e1
  rw [hT, List.append_assoc] at e6
  exact List.append_cancel_left e6
/-- The log and its disk between two acts. -/
structure Inv (x : GInode) (L : Int) (l u : List ByteArray) : Prop where
  pw : Pw L
  dt : x.Data = fr (l ++ u)
  sy : x.Synced = ((fr l).size : Int)
  sm : Sm (l ++ u)
  to : L ≠ 0 → u = []
theorem Inv.ok {x : GInode} {L : Int} {l u : List ByteArray} (h : Inv x L l u) : okI x = true := by
  have h1 := h.sm.frs
  have h2 : (fr (l ++ u)).size = (fr l).size + (fr u).size := by rw [fr_app]; exact ByteArray.size_append ..
  exact okI_iff.2 ⟨by rw [h.dt]; omega, by rw [h.sy]; omega, by rw [h.dt, h.sy]; omega⟩
theorem reopen_w (n : Nat) {x : GInode} {L : Int} {l u : List ByteArray} (h : Inv x L l u) (picks : List Int) (hp : picks.length ≤ 10) (sz : Int) (rs : List ByteArray) (hn : 30000 ≤ n) :
    ∃ t v, u = t ++ v ∧ lookoutlaw23_reopened n ⟨dD x L, nW, sz, rs⟩ picks = some (⟨dD ⟨fr (l ++ t), ((fr (l ++ t)).size : Int)⟩ (-1), nW, ((fr (l ++ t)).size : Int), l ++ t⟩, 0) := by
  obtain ⟨m, rfl⟩ : ∃ m, n = m + 1 := ⟨n - 1, by omega⟩
  obtain ⟨k, k1, k2, k3⟩ := crD_ picks h.ok h.pw
  have hfs := h.sm.frs
  rw [h.dt] at k2
  have hex : (x.Data.extract 0 k).size = k := ext_size _ 0 k (by omega) (by rw [h.dt]; exact k2)
  obtain ⟨t, v, g1, g2, g3, g4⟩ := part_w l u k h.sm (by have := h.sy; omega) k2
  refine ⟨t, v, g1, ?_⟩
  have hky : ky (x.Data.extract 0 k) = (frms ((l ++ u).map ky)).take k := by
    rw [ky_ext, h.dt, fr_ky, List.drop_zero, Nat.sub_zero]
  have ho := open_w m (x.Data.extract 0 k) (by omega) (by omega)
  rw [hex, hky, g2, g3] at ho
  have hcut : (x.Data.extract 0 k).extract 0 (fr (l ++ t)).size = fr (l ++ t) := by
    apply ky_inj
    rw [ky_ext, hky, List.drop_zero, Nat.sub_zero, List.take_take, Nat.min_eq_left g4, fr_ky, g1, ← List.append_assoc, List.map_append, frms_app, fr_size, List.take_left]
  rw [hcut] at ho
  simp only [lookoutlaw23_reopened]
  rw [show (⟨(dD x L).Inodes, (dD x L).Durable, (dD x L).Pending, (dD x L).Left⟩ : GDisk) = dD x L from rfl, crash_d _ 200 _ _ (bdD _ _) (by omega) (by omega), k3]
  simp only [Option.bind_some]
  rw [ho]
  rfl
theorem clone_w (n : Nat) (l : List ByteArray) (hl : l.length ≤ 200) (hn : 1 ≤ n) : slices_Clone_16 n l = some l := by
  obtain ⟨m, rfl⟩ : ∃ m, n = m + 1 := ⟨n - 1, by omega⟩
  simp only [slices_Clone_16]
  cases l with
  | nil => rfl
  | cons s l =>
    rw [decide_eq_true (show 0 < (s :: l).length by simp)]
    rw [decide_eq_true (show (0 + (s :: l).length) * 16 ≤ 140737488355328 by omega), decide_eq_true (show 0 + (s :: l).length ≤ 9223372036854775807 by omega)]
    rfl
structure Fa (a : Glookoutlaw23_Act) : Prop where
  rl : a.Records.length ≤ 8
  rs : ∀ s ∈ a.Records, s.size ≤ 100
  pl : a.Picks.length ≤ 10
  n0 : 0 ≤ a.N
  n1 : a.N < 256
theorem getA (l : List Glookoutlaw23_Act) (i : Nat) (h : i < l.length) : l.getD i dGlookoutlaw23_Act = l[i] := by simp [List.getD, h]
theorem other_w (n : Nat) {x : GInode} {L : Int} (h : okI x = true) (hL : Pw L) (hn : 5000 ≤ n) : disk_Read n (dD x L) nO = some (cC, 0) := by
  rw [read_d _ 200 _ _ (bdD _ _) (by omega), rdO h hL]
theorem run_l6 (n : Nat) (acts : List Glookoutlaw23_Act) (hf : ∀ a ∈ acts, Fa a) (hal : acts.length ≤ 9) (hn : 40000 ≤ n) : ∀ (k i m : Nat) (x : GInode) (L : Int) (l u : List ByteArray) (sz : Int), i + k = acts.length → k < m → Inv x L l u → (l ++ u).length ≤ 8 * i → (u = [] → sz = (x.Data.size : Int)) →
    lookoutlaw23_WalRun_l6 n m [⟨cC, 7⟩, x] [⟨nO, 0⟩, ⟨nW, 1⟩] [] L nW sz l l u acts (acts.length : Int) (i : Int) = some true
  | _, i, 0, x, L, l, u, sz, h, hk, hI, hc, hs => by omega
  | 0, i, m + 1, x, L, l, u, sz, h, hk, hI, hc, hs => by
    simp only [lookoutlaw23_WalRun_l6]
    rw [decide_eq_false (show ¬ (i : Int) < (acts.length : Int) by omega)]
    simp only [cond_false, lookoutlaw23_WalRun_s5]
    rw [awake_all n (by omega)]
    rfl
  | k + 1, i, m + 1, x, L, l, u, sz, h, hk, hI, hc, hs => by
    have h1 : i < acts.length := by omega
    have ha := hf acts[i] (List.getElem_mem h1)
    have ih := run_l6 n acts hf hal hn k (i + 1) m
    have hro := fun {y : GInode} {M : Int} (h : okI y = true) (hM : Pw M) => other_w n h hM (by omega)
    have hwi := wr1 i (by omega)
    generalize hAe : acts[i] = A at *
    have hstay : ∀ (y : GInode) (M : Int) (r v : List ByteArray) (z : Int), Inv y M r v → (r ++ v).length ≤ 8 * (i + 1) → (v = [] → z = (y.Data.size : Int)) →
        lookoutlaw23_WalRun_s7 n (fun a0 a1 a2 a3 a4 a5 a6 a7 a8 a9 a10 a11 => lookoutlaw23_WalRun_l6 n m a0 a1 a2 a3 a4 a5 a6 a7 a8 a9 a10 a11) acts (acts.length : Int) [⟨cC, 7⟩, y] [⟨nO, 0⟩, ⟨nW, 1⟩] [] M nW z r r v (i : Int) = some true := fun y M r v z hy hr hz => by
      simp only [lookoutlaw23_WalRun_s7]
      rw [show (⟨[⟨cC, 7⟩, y], [⟨nO, 0⟩, ⟨nW, 1⟩], [], M⟩ : GDisk) = dD y M from rfl, show (⟨#[111, 116, 104, 101, 114]⟩ : ByteArray) = nO from rfl, hro hy.ok hy.pw, show (⟨#[99, 111, 110, 116, 101, 110, 116]⟩ : ByteArray) = cC from rfl, hwi]
      simp only [Option.bind_some]
      rw [show ((0 : Int) != 0) = false from rfl, sNe_eq, decide_eq_true rfl]
      simp only [Bool.not_true, cond_false]
      exact ih y M r v z (by omega) (by omega) hy (by omega) hz
    have hre : (lookoutlaw23_reopened n (⟨(⟨[⟨cC, 7⟩, x], [⟨nO, 0⟩, ⟨nW, 1⟩], [], L⟩ : GDisk), nW, sz, l⟩ : GWal) A.Picks).bind (fun r10 => (bif (r10.2 != 0) then (some false) else ((lookoutlaw23_prefix n r10.1.Records l).bind fun r11 => (bif (!r11) then (some false) else (bif (decide ((0 : Int) ≤ (l.length : Int)) && decide ((l.length : Int) ≤ (r10.1.Records.length : Int)) && decide ((r10.1.Records.length : Int) ≤ (r10.1.Records.length : Int))) then ((lookoutlaw23_prefix n u (List.drop l.length r10.1.Records)).bind fun r13 => (bif (!r13) then (some false) else ((wal_Check n r10.1).bind fun r14 => (bif (r14 != 0) then (some false) else (lookoutlaw23_WalRun_s11 n (fun a0 a1 a2 a3 a4 a5 a6 a7 a8 a9 a10 a11 => lookoutlaw23_WalRun_l6 n m a0 a1 a2 a3 a4 a5 a6 a7 a8 a9 a10 a11) acts (acts.length : Int) r10.1.Disk.Inodes r10.1.Disk.Durable r10.1.Disk.Pending r10.1.Disk.Left r10.1.Name r10.1.Size r10.1.Records r10.1.Records (i : Int)))))) else none))))) = some true := by
      obtain ⟨t, v, g1, g2⟩ := reopen_w n hI A.Picks ha.pl sz l (by omega)
      rw [show (⟨[⟨cC, 7⟩, x], [⟨nO, 0⟩, ⟨nW, 1⟩], [], L⟩ : GDisk) = dD x L from rfl, g2]
      have hsm : Sm (l ++ t) := ⟨fun s hs => hI.sm.sz s (by rw [g1]; simp only [List.mem_append] at hs ⊢; rcases hs with hs | hs; exact .inl hs; exact .inr (.inl hs)), by have := hI.sm.len; rw [g1] at this; simp only [List.length_append] at this ⊢; omega⟩
      have hlen := hsm.len
      have hulen := hI.sm.len
      rw [List.length_append] at hlen hulen
      have hv : u.length = t.length + v.length := by rw [g1, List.length_append]
      have hPw : Pw (-1) := ⟨by omega, by omega⟩
      have hI2 : Inv ⟨fr (l ++ t), ((fr (l ++ t)).size : Int)⟩ (-1) (l ++ t) [] := ⟨hPw, by rw [List.append_nil], rfl, by rw [List.append_nil]; exact hsm, fun _ => rfl⟩
      simp only [Option.bind_some]
      rw [show ((0 : Int) != 0) = false from rfl, prefix_eq n l t (by rw [List.length_append]; omega) (by omega)]
      simp only [cond_false, Option.bind_some, Bool.not_true]
      rw [dec3 l.length (l ++ t).length (l ++ t).length (by rw [List.length_append]; omega) (Nat.le_refl _), List.drop_left, show lookoutlaw23_prefix n u t = some true by rw [g1]; exact prefix_eq n t v (by rw [List.length_append]; omega) (by omega)]
      simp only [cond_true, cond_false, Option.bind_some, Bool.not_true]
      rw [check_w n (x := ⟨fr (l ++ t), ((fr (l ++ t)).size : Int)⟩) hI2.ok hPw rfl hsm (by omega)]
      simp only [Option.bind_some]
      rw [show ((0 : Int) != 0) = false from rfl]
      simp only [cond_false, lookoutlaw23_WalRun_s11]
      rw [show (⟨(dD ⟨fr (l ++ t), ((fr (l ++ t)).size : Int)⟩ (-1)).Inodes, (dD ⟨fr (l ++ t), ((fr (l ++ t)).size : Int)⟩ (-1)).Durable, (dD ⟨fr (l ++ t), ((fr (l ++ t)).size : Int)⟩ (-1)).Pending, (dD ⟨fr (l ++ t), ((fr (l ++ t)).size : Int)⟩ (-1)).Left⟩ : GDisk) = dD ⟨fr (l ++ t), ((fr (l ++ t)).size : Int)⟩ (-1) from rfl, show (⟨#[111, 116, 104, 101, 114]⟩ : ByteArray) = nO from rfl, hro hI2.ok hPw, show (⟨#[99, 111, 110, 116, 101, 110, 116]⟩ : ByteArray) = cC from rfl, hwi]
      simp only [Option.bind_some]
      rw [show ((0 : Int) != 0) = false from rfl, sNe_eq, decide_eq_true rfl]
      simp only [Bool.not_true, cond_false]
      exact ih _ (-1) (l ++ t) [] _ (by omega) (by omega) hI2 (by rw [List.append_nil, List.length_append]; rw [List.length_append] at hc; omega) (fun _ => rfl)
    simp only [lookoutlaw23_WalRun_l6]
    rw [dec_in i acts.length h1, decide_eq_true (show (i : Int) < (acts.length : Int) by omega), toNat_c, getA acts i h1, hAe]
    simp only [cond_true]
    have hc8 : (l ++ u).length ≤ 8 * (i + 1) := by omega
    by_cases k1 : A.Kind = 1
    · rw [k1, show ((1 : Int) == 1) = true from rfl, show ((1 : Int) == 0) = false from rfl, show ((1 : Int) == 2) = false from rfl]
      simp only [cond_true, cond_false]
      by_cases hm1 : L = -1
      · rw [show (L == -1) = true by rw [beq_iff_eq]; exact hm1]
        simp only [cond_true]
        have hn0 := ha.n0; have hn1 := ha.n1
        rw [wr A.N (by omega) (by omega), Int.tmod_eq_emod_of_nonneg hn0]
        have hu : u = [] := hI.to (by omega)
        exact hstay x (A.N % 4) l u sz ⟨⟨by omega, by omega⟩, hI.dt, hI.sy, hI.sm, fun _ => hu⟩ hc8 hs
      · rw [show (L == -1) = false by rw [beq_eq_false_iff_ne]; exact hm1]
        exact hstay x L l u sz hI hc8 hs
    · rw [show (A.Kind == 1) = false by rw [beq_eq_false_iff_ne]; exact k1]
      simp only [cond_false]
      by_cases k0 : A.Kind = 0
      · rw [k0, show ((0 : Int) == 0) = true from rfl, show ((0 : Int) == 2) = false from rfl]
        simp only [cond_true, cond_false]
        by_cases hL0 : L = 0
        · rw [show (L != 0) = false by rw [hL0]; rfl]
          exact hstay x L l u sz hI hc8 hs
        · have hu : u = [] := hI.to hL0
          subst hu
          have hd : x.Data = fr l := by rw [hI.dt, List.append_nil]
          have hsl : Sm l := by have := hI.sm; rwa [List.append_nil] at this
          have hsa : Sm A.Records := ⟨ha.rs, by have := ha.rl; omega⟩
          have harl := ha.rl
          have hll : l.length ≤ 8 * i := by rw [List.append_nil] at hc; exact hc
          have hsla : Sm (l ++ A.Records) := ⟨fun s hs => (List.mem_append.1 hs).elim (hsl.sz s) (hsa.sz s), by rw [List.length_append]; omega⟩
          have hsz : sz = (x.Data.size : Int) := hs rfl
          have hfa : (fr (l ++ A.Records)).size = (fr l).size + (fr A.Records).size := by rw [fr_app]; exact ByteArray.size_append ..
          rw [show (L != 0) = true by rw [bne_iff_ne]; exact hL0, show (⟨[⟨cC, 7⟩, x], [⟨nO, 0⟩, ⟨nW, 1⟩], [], L⟩ : GDisk) = dD x L from rfl, hsz, append_w n hI.ok hI.pw hL0 hd hsl hsa (by omega)]
          simp only [cond_true, Option.bind_some]
          unfold apW
          by_cases he : A.Records = []
          · rw [if_pos he]
            simp only
            rw [show ((0 : Int) == 0) = true from rfl, clone_w n l (by omega) (by omega), he]
            simp only [cond_true, Option.bind_some]
            rw [decide_eq_true (show (l.length + ([] : List ByteArray).length) * 16 ≤ 140737488355328 by simp; omega), decide_eq_true (show l.length + ([] : List ByteArray).length ≤ 9223372036854775807 by simp; omega), List.append_nil]
            simp only [Bool.and_self, cond_true]
            exact hstay x L l [] _ hI hc8 (fun _ => rfl)
          · rw [if_neg he]
            by_cases hd1 : dn L = 0
            · rw [if_pos hd1]
              simp only
              rw [show ((19 : Int) == 0) = false from rfl, show ((19 : Int) == 19) = true from rfl]
              simp only [cond_true, cond_false]
              exact hstay ⟨x.Data ++ fr A.Records, x.Synced⟩ 0 l A.Records _ ⟨⟨by omega, by omega⟩, by simp only; rw [hd, fr_app], by simp only; exact hI.sy, hsla, fun e => absurd rfl e⟩ (by rw [List.length_append]; omega) (fun e => absurd e he)
            · rw [if_neg hd1]
              simp only
              rw [show ((0 : Int) == 0) = true from rfl, clone_w n l (by omega) (by omega)]
              simp only [cond_true, Option.bind_some]
              rw [decide_eq_true (show (l.length + A.Records.length) * 16 ≤ 140737488355328 by omega), decide_eq_true (show l.length + A.Records.length ≤ 9223372036854775807 by omega)]
              simp only [Bool.and_self, cond_true]
              exact hstay ⟨x.Data ++ fr A.Records, ((x.Data ++ fr A.Records).size : Int)⟩ (dn (dn L)) (l ++ A.Records) [] _ ⟨dn_pw (dn_pw hI.pw), by simp only; rw [hd, List.append_nil, fr_app], by simp only; rw [hd, fr_app], by rw [List.append_nil]; exact hsla, fun _ => rfl⟩ (by rw [List.append_nil, List.length_append]; omega) (fun _ => rfl)
      · rw [show (A.Kind == 0) = false by rw [beq_eq_false_iff_ne]; exact k0]
        simp only [cond_false]
        by_cases k2 : A.Kind = 2
        · rw [k2, show ((2 : Int) == 2) = true from rfl]
          simp only [cond_true]
          exact hre
        · rw [show (A.Kind == 2) = false by rw [beq_eq_false_iff_ne]; exact k2]
          exact hstay x L l u sz hI hc8 hs
end Go.Proofs.YtkignmhjbjgkoaaGreat

/- Plain laws of the log: WalRun, the law. -/
set_option linter.unusedVariables false
set_option linter.unusedSimpArgs false
set_option maxRecDepth 100000
namespace Go.Proofs.YtkignmhjbjgkoaaGreat
open Go Go.AM

def eA (x : GInode) : GDisk := ⟨[x], [], [⟨1, nO, bE, 0⟩], -1⟩
theorem bdE (x : GInode) : Bd 200 (eA x) := ⟨by simp [eA], fun y hy => by
  simp only [eA, List.mem_singleton] at hy
  subst hy
  show nO.size + bE.size ≤ 200
  decide, by simp [eA], by simp [eA], by simp [eA], by omega⟩
theorem lwE (x : GInode) : Lw (eA x) := ⟨by simp [eA], by simp [eA]⟩
def eB : GDisk := ⟨[⟨cC, 7⟩, ⟨bE, 0⟩], [], [⟨1, nO, bE, 0⟩, ⟨1, nW, bE, 1⟩], -1⟩
theorem bdEB : Bd 200 eB := ⟨by simp [eB], fun y hy => by
  simp only [eB, List.mem_cons, List.not_mem_nil, or_false] at hy
  rcases hy with rfl | rfl
  · show nO.size + bE.size ≤ 200
    decide
  · show nW.size + bE.size ≤ 200
    decide, by simp [eB], by simp [eB], by simp [eB], by omega⟩
theorem v_e1 : crtF ⟨[], [], [], -1⟩ nO = (eA ⟨bE, 0⟩, 0) := by kernel_rfl
theorem v_e2 : appF (eA ⟨bE, 0⟩) nO cC = (eA ⟨cC, 0⟩, 0) := by kernel_rfl
theorem v_e3 : synF (eA ⟨cC, 0⟩) nO = (eA ⟨cC, 7⟩, 0) := by kernel_rfl
theorem v_e4 : crtF (eA ⟨cC, 7⟩) nW = (eB, 0) := by kernel_rfl
theorem v_e5 : sdF eB = (dD ⟨bE, 0⟩ (-1), 0) := by kernel_rfl
theorem v_e6 : valid (eA ⟨cC, 7⟩) = true := by kernel_rfl
theorem begin_w (n : Nat) (hn : 6000 ≤ n) : lookoutlaw23_begin n = some (⟨dD ⟨bE, 0⟩ (-1), nW, 0, []⟩, 0) := by
  obtain ⟨m, rfl⟩ : ∃ m, n = m + 12 := ⟨n - 12, by omega⟩
  have h0 : Bd 200 (⟨[], [], [], -1⟩ : GDisk) := ⟨by simp, by simp, by simp, by simp, by simp, by omega⟩
  have hC : wal_Create (m + 11) (eA ⟨cC, 7⟩) nW = some (⟨dD ⟨bE, 0⟩ (-1), nW, 0, []⟩, 0) := by
    simp only [wal_Create]
    rw [check_eq _ 200 _ (bdE _) (by omega), v_e6]
    simp only [cond_true, Option.bind_some]
    rw [show ((0 : Int) != 0) = false from rfl]
    simp only [cond_false, wal_run_v2, wal_Create_c1]
    rw [create_f _ 200 _ _ (bdE _) (lwE _) (by omega), v_e4]
    simp only [Option.bind_some]
    rw [show ((0 : Int) != 0) = false from rfl]
    simp only [cond_false]
    rw [syncdir_f _ 200 _ bdEB ⟨by simp [eB], by simp [eB]⟩ (by omega), v_e5]
    rfl
  simp only [lookoutlaw23_begin, disk_New, Option.bind_some]
  rw [show (⟨#[111, 116, 104, 101, 114]⟩ : ByteArray) = nO from rfl, show (⟨#[99, 111, 110, 116, 101, 110, 116]⟩ : ByteArray) = cC from rfl, create_f _ 200 _ _ h0 ⟨by simp, by simp⟩ (by omega), v_e1]
  simp only [Option.bind_some]
  rw [append_f _ 200 _ _ _ (bdE _) (lwE _) (by omega) (by show 7 ≤ _; omega), v_e2]
  simp only [Option.bind_some]
  rw [sync_f _ 200 _ _ (bdE _) (lwE _) (by omega), v_e3]
  simp only [Option.bind_some]
  have hl : lookoutlaw23_begin_l0 (m + 11) (eA ⟨cC, 7⟩, 0) (m + 11) [0, 0, 0] (([0, 0, 0] : List Int).length : Int) 0 = lookoutlaw23_begin_s1 (m + 11) (eA ⟨cC, 7⟩, 0) := rfl
  rw [hl]
  simp only [lookoutlaw23_begin_s1]
  rw [show (⟨#[119, 97, 108, 46, 49]⟩ : ByteArray) = nW from rfl, hC]
  rfl
theorem fine_l0 (n : Nat) (p : List Glookoutlaw23_Act) (hp : p.length ≤ 9223372036854775807) (hn : 20 ≤ n) : ∀ (k i m : Nat), i + k = p.length → k < m →
    ∃ b, lookoutlaw23_Fine_l0 n p m (p.length : Int) (i : Int) = some b ∧ (b = true → (∀ a ∈ p.drop i, a.Records.length ≤ 8 ∧ (∀ s ∈ a.Records, s.size ≤ 100) ∧ a.Picks.length ≤ 10) ∧ p.length ≤ 8)
  | _, i, 0, h, hk => by omega
  | 0, i, m + 1, h, hk => by
    simp only [lookoutlaw23_Fine_l0]
    rw [decide_eq_false (show ¬ (i : Int) < (p.length : Int) by omega), List.drop_eq_nil_of_le (by omega)]
    simp only [cond_false, lookoutlaw23_Fine_s1]
    exact ⟨_, rfl, fun hb => ⟨by simp, by have := of_decide_eq_true hb; omega⟩⟩
  | k + 1, i, m + 1, h, hk => by
    have h1 : i < p.length := by omega
    simp only [lookoutlaw23_Fine_l0]
    rw [dec_in i p.length h1, decide_eq_true (show (i : Int) < (p.length : Int) by omega), toNat_c, getA p i h1, wr1 i (by omega), List.drop_eq_getElem_cons h1]
    simp only [cond_true]
    obtain ⟨b, g1, g2⟩ := fine_l0 n p hp hn k (i + 1) m (by omega) (by omega)
    generalize p[i] = A at *
    by_cases c1 : A.Records.length ≤ 8
    · rw [decide_eq_false (show ¬ (A.Records.length : Int) > 8 by omega)]
      simp only [cond_false]
      by_cases c2 : A.Picks.length ≤ 10
      · rw [decide_eq_false (show ¬ (A.Picks.length : Int) > 10 by omega)]
        simp only [cond_false]
        rw [contains_eq n A.Records (by omega) (by omega)]
        simp only [Option.bind_some]
        by_cases c3 : ∀ s ∈ A.Records, s.size ≤ 100
        · rw [decide_eq_true c3]
          simp only [Bool.not_true, cond_false]
          exact ⟨b, g1, fun hb => ⟨List.forall_mem_cons.2 ⟨⟨c1, c3, c2⟩, (g2 hb).1⟩, (g2 hb).2⟩⟩
        · rw [decide_eq_false c3]
          exact ⟨false, rfl, fun hb => by cases hb⟩
      · rw [decide_eq_true (show (A.Picks.length : Int) > 10 by omega)]
        exact ⟨false, rfl, fun hb => by cases hb⟩
    · rw [decide_eq_true (show (A.Records.length : Int) > 8 by omega)]
      exact ⟨false, rfl, fun hb => by cases hb⟩
theorem walRun_law (p0 : List Glookoutlaw23_Act) (p1 : List Int) (hp : p0.length ≤ 9223372036854775807) (hN : ∀ a ∈ p0, 0 ≤ a.N ∧ a.N < 256) : ∃ n, lookoutlaw23_WalRun n p0 p1 = some true := by
  refine ⟨p0.length + 50000 + 2, ?_⟩
  generalize hM : p0.length + 50000 = M
  have haw : lookoutlaw23_awake (M + 1) = some true := awake_all _ (by omega)
  show lookoutlaw23_WalRun ((M + 1) + 1) p0 p1 = _
  simp only [lookoutlaw23_WalRun]
  obtain ⟨b, g1, g2⟩ := fine_l0 M p0 hp (by omega) p0.length 0 M (by omega) (by omega)
  rw [Int.natCast_zero] at g1
  rw [show lookoutlaw23_Fine (M + 1) p0 = some b from g1]
  simp only [Option.bind_some]
  cases b with
  | false => rw [haw]; rfl
  | true =>
    obtain ⟨h1, h2⟩ := g2 rfl
    rw [List.drop_zero] at h1
    simp only [Bool.not_true, cond_false]
    by_cases c : p1.length ≤ 10
    · rw [decide_eq_false (show ¬ (p1.length : Int) > 10 by omega), begin_w _ (by omega)]
      simp only [cond_false, Option.bind_some]
      rw [show ((0 : Int) != 0) = false from rfl]
      simp only [cond_false]
      have hcl : slices_Clone_14 (M + 1) p0 = some p0 := by
        simp only [slices_Clone_14]
        cases p0 with
        | nil => rfl
        | cons a l =>
          rw [decide_eq_true (show 0 < (a :: l).length by simp)]
          rw [decide_eq_true (show (0 + (a :: l).length) * 64 ≤ 140737488355328 by omega), decide_eq_true (show 0 + (a :: l).length ≤ 9223372036854775807 by omega)]
          rfl
      rw [hcl]
      simp only [Option.bind_some]
      rw [decide_eq_true (show (p0.length + 1) * 64 ≤ 140737488355328 by omega), decide_eq_true (show p0.length + 1 ≤ 9223372036854775807 by omega)]
      simp only [Bool.and_self, cond_true]
      have hfa : ∀ a ∈ p0 ++ [(⟨2, [], 0, p1⟩ : Glookoutlaw23_Act)], Fa a := fun a ha => by
        rcases List.mem_append.1 ha with ha | ha
        · obtain ⟨q1, q2, q3⟩ := h1 a ha
          exact ⟨q1, q2, q3, (hN a ha).1, (hN a ha).2⟩
        · rw [List.mem_singleton] at ha
          subst ha
          exact ⟨by simp, by simp, c, by simp, by simp⟩
      have hr := run_l6 (M + 1) (p0 ++ [(⟨2, [], 0, p1⟩ : Glookoutlaw23_Act)]) hfa (by rw [List.length_append]; simp; omega) (by omega) (p0 ++ [(⟨2, [], 0, p1⟩ : Glookoutlaw23_Act)]).length 0 (M + 1) ⟨bE, 0⟩ (-1) [] [] 0 (by omega) (by rw [List.length_append]; simp; omega)
        ⟨⟨by omega, by omega⟩, rfl, rfl, ⟨by simp, by simp⟩, fun _ => rfl⟩ (by simp) (fun _ => rfl)
      rw [Int.natCast_zero] at hr
      exact hr
    · rw [decide_eq_true (show (p1.length : Int) > 10 by omega), haw]; rfl
end Go.Proofs.YtkignmhjbjgkoaaGreat
