/- Plain laws of the log, 4: WalFrames, WalScan. -/
import Derived.Test.YtkignmhjbjgkoaaSq3
set_option linter.unusedVariables false
set_option linter.unusedSimpArgs false
set_option maxRecDepth 100000
namespace Go.Proofs.Ytkignmhjbjgkoaa
open Go Go.AM

theorem awake23 : lookoutlaw23_awake 9999 = some true := by kernel_rfl

theorem getD_s (l : List ByteArray) (i : Nat) (h : i < l.length) : l.getD i bE = l[i] := by simp [List.getD, h]
theorem equal_l0 (n : Nat) (a b : List ByteArray) (hab : a.length = b.length) (ha : a.length < 1000000000) : ∀ (k i m : Nat), i + k = a.length → k < m →
    slices_Equal_l0 n a b m (a.length : Int) (i : Int) = some (decide (a.drop i = b.drop i))
  | _, i, 0, h, hk => by omega
  | 0, i, m + 1, h, hk => by
    simp only [slices_Equal_l0]
    rw [decide_eq_false (show ¬ (i : Int) < (a.length : Int) by omega), List.drop_eq_nil_of_le (by omega), List.drop_eq_nil_of_le (by omega)]
    rfl
  | k + 1, i, m + 1, h, hk => by
    have h1 : i < a.length := by omega
    have h2 : i < b.length := by omega
    simp only [slices_Equal_l0]
    rw [dec_in i a.length h1, decide_eq_true (show (i : Int) < (a.length : Int) by omega), toNat_c, getD_s a i h1, getD_s b i h2, dec_in i b.length h2, sNe_eq, wr1 i (by omega)]
    simp only [cond_true]
    rw [List.drop_eq_getElem_cons h1, List.drop_eq_getElem_cons h2]
    by_cases e : a[i] = b[i]
    · rw [decide_eq_true e]
      simp only [Bool.not_true, cond_false]
      rw [equal_l0 n a b hab ha k (i + 1) m (by omega) (by omega)]
      congr 1
      rw [Bool.eq_iff_iff, decide_eq_true_eq, decide_eq_true_eq, e]
      exact ⟨fun h => by rw [h], fun h => (List.cons.inj h).2⟩
    · rw [decide_eq_false e]
      simp only [Bool.not_false, cond_true]
      rw [decide_eq_false (fun h => e (List.cons.inj h).1)]
theorem equal_eq (n : Nat) (a b : List ByteArray) (ha : a.length < 1000000000) (hn : a.length + 3 ≤ n) : slices_Equal n a b = some (decide (a = b)) := by
  obtain ⟨m, rfl⟩ : ∃ m, n = m + 1 := ⟨n - 1, by omega⟩
  simp only [slices_Equal]
  by_cases h : a.length = b.length
  · rw [show (((a.length : Nat) : Int) != ((b.length : Nat) : Int)) = false from by rw [bne_eq_false_iff_eq]; omega]
    exact equal_l0 m a b h ha a.length 0 m (by omega) (by omega)
  · rw [show (((a.length : Nat) : Int) != ((b.length : Nat) : Int)) = true from by rw [bne_iff_ne]; omega, decide_eq_false (fun e => h (by rw [e]))]
    rfl
theorem prefix_eq (n : Nat) (a u : List ByteArray) (ha : (a ++ u).length < 1000000000) (hn : a.length + 4 ≤ n) : lookoutlaw23_prefix n (a ++ u) a = some true := by
  obtain ⟨m, rfl⟩ : ∃ m, n = m + 1 := ⟨n - 1, by omega⟩
  rw [List.length_append] at ha
  simp only [lookoutlaw23_prefix]
  rw [dec3z a.length (a ++ u).length (by rw [List.length_append]; omega), decide_eq_true (show ((a ++ u).length : Int) ≥ (a.length : Int) by rw [List.length_append]; omega), List.take_left]
  simp only [cond_true]
  rw [equal_eq m a a (by omega) (by omega)]
  simp
theorem recs_len (l : List UInt8) : (recs l).length ≤ l.length := by
  have := scanL_le (l.length + 1) l
  unfold recs; rw [List.length_map]; omega
theorem extent_le (l : List UInt8) : extent l ≤ l.length := (scanL_le _ _).1

theorem walFrames_law (r b : ByteArray) : ∃ n, lookoutlaw23_WalFrames n r b = some true := by
  refine ⟨10000, ?_⟩
  show lookoutlaw23_WalFrames (9999 + 1) r b = _
  simp only [lookoutlaw23_WalFrames]
  by_cases h1 : r.size ≤ 2000
  · rw [decide_eq_false (show ¬ (r.size : Int) > 2000 by omega)]
    by_cases h2 : b.size ≤ 6000
    · rw [decide_eq_false (show ¬ (b.size : Int) > 6000 by omega), Scan_eq 9999 b (by omega) (by omega), rScan_eq 9999 b (by omega) (by omega), Frame_eq 9999 r (by omega) (by omega), rFrame_eq 9999 r (by omega) (by omega)]
      have := recs_len (ky b)
      rw [ky_len] at this
      simp only [Option.bind_some, cond_false]
      rw [sEq_eq, decide_eq_true rfl, equal_eq 9999 _ _ (by omega) (by omega), decide_eq_true rfl, awake23]
      simp only [Option.bind_some, cond_true, beq_self_eq_true]
    · rw [decide_eq_true (show (b.size : Int) > 6000 by omega), awake23]; rfl
  · rw [decide_eq_true (show (r.size : Int) > 2000 by omega), awake23]; rfl

/-! ### Sizes -/
theorem index_l0 (n : Nat) (l : List ByteArray) (hl : l.length < 1000000000) : ∀ (k i m : Nat), i + k = l.length → k < m →
    ∃ z : Int, slices_IndexFunc_l0 (n + 1) l m (l.length : Int) (i : Int) = some z ∧ (decide (z ≥ 0) = !decide (∀ s ∈ l.drop i, s.size ≤ 100))
  | _, i, 0, h, hk => by omega
  | 0, i, m + 1, h, hk => by
    simp only [slices_IndexFunc_l0]
    rw [decide_eq_false (show ¬ (i : Int) < (l.length : Int) by omega), List.drop_eq_nil_of_le (by omega)]
    exact ⟨-1, rfl, by simp⟩
  | k + 1, i, m + 1, h, hk => by
    have h1 : i < l.length := by omega
    simp only [slices_IndexFunc_l0]
    rw [dec_in i l.length h1, decide_eq_true (show (i : Int) < (l.length : Int) by omega), toNat_c, getD_s l i h1, wr1 i (by omega)]
    simp only [cond_true, lookoutlaw23_Fine_c1, Option.bind_some]
    rw [List.drop_eq_getElem_cons h1]
    by_cases e : l[i].size ≤ 100
    · rw [decide_eq_false (show ¬ (l[i].size : Int) > 100 by omega)]
      obtain ⟨z, g1, g2⟩ := index_l0 n l hl k (i + 1) m (by omega) (by omega)
      refine ⟨z, g1, ?_⟩
      rw [g2]
      congr 1
      rw [Bool.eq_iff_iff, decide_eq_true_eq, decide_eq_true_eq, List.forall_mem_cons]
      exact ⟨fun h => ⟨e, h⟩, fun h => h.2⟩
    · rw [decide_eq_true (show (l[i].size : Int) > 100 by omega)]
      refine ⟨i, rfl, ?_⟩
      rw [decide_eq_true (show (i : Int) ≥ 0 by omega), decide_eq_false (fun hh => e (hh _ List.mem_cons_self))]
      rfl
theorem contains_eq (n : Nat) (l : List ByteArray) (hl : l.length < 1000000000) (hn : l.length + 5 ≤ n) : slices_ContainsFunc n l = some (!decide (∀ s ∈ l, s.size ≤ 100)) := by
  obtain ⟨m, rfl⟩ : ∃ m, n = m + 3 := ⟨n - 3, by omega⟩
  obtain ⟨z, g1, g2⟩ := index_l0 m l hl l.length 0 (m + 1) (by omega) (by omega)
  rw [List.drop_zero] at g2
  simp only [slices_ContainsFunc, slices_IndexFunc]
  refine Eq.trans (congrArg (fun z => Option.bind z _) g1) ?_
  simp only [Option.bind_some]
  rw [g2]
def small (l : List ByteArray) : Bool := decide (l.length ≤ 8) && decide (∀ s ∈ l, s.size ≤ 100)
theorem fine_one (n : Nat) (l : List ByteArray) (k c : Int) (hn : 30 ≤ n) : lookoutlaw23_Fine n [(⟨k, l, c, []⟩ : Glookoutlaw23_Act)] = some (small l) := by
  obtain ⟨m, rfl⟩ : ∃ m, n = m + 3 := ⟨n - 3, by omega⟩
  simp only [lookoutlaw23_Fine, lookoutlaw23_Fine_l0]
  have e0 : ([(⟨k, l, c, []⟩ : Glookoutlaw23_Act)].getD (0 : Int).toNat dGlookoutlaw23_Act) = ⟨k, l, c, []⟩ := rfl
  have e1 : ([(⟨k, l, c, []⟩ : Glookoutlaw23_Act)].length : Int) = 1 := rfl
  rw [e0, e1]
  simp only [List.length_nil]
  rw [show decide ((0 : Int) < 1) = true from rfl, show decide ((0 : Int) ≤ 0) = true from rfl, show decide (((0 : Nat) : Int) > 10) = false from rfl]
  simp only [cond_true, cond_false, Bool.and_self]
  unfold small
  by_cases h : l.length ≤ 8
  · rw [decide_eq_false (show ¬ (l.length : Int) > 8 by omega), decide_eq_true h, contains_eq (m + 2) l (by omega) (by omega)]
    simp only [Option.bind_some, cond_false, Bool.true_and]
    cases decide (∀ s ∈ l, s.size ≤ 100) <;> rfl
  · rw [decide_eq_true (show (l.length : Int) > 8 by omega), decide_eq_false h]; rfl

/-! ### WalScan -/
theorem frms_app : ∀ (a b : List (List UInt8)), frms (a ++ b) = frms a ++ frms b
  | [], _ => rfl
  | r :: a, b => by simp only [List.cons_append, frms, frms_app a b, List.append_assoc]
def fr (l : List ByteArray) : ByteArray := bs (frms (l.map ky))
theorem fr_snoc (l : List ByteArray) (i : Nat) (h : i < l.length) : fr (l.take i) ++ bs (frm (ky l[i])) = fr (l.take (i + 1)) := by
  apply ky_inj
  unfold fr
  rw [ky_app, ky_bs, ky_bs, ky_bs, List.take_succ_eq_append_getElem h, List.map_append, frms_app]
  simp [frms]
theorem fr_ky (l : List ByteArray) : ky (fr l) = frms (l.map ky) := ky_bs _
theorem frms_size : ∀ (l : List ByteArray), (∀ s ∈ l, s.size ≤ 6000) → (frms (l.map ky)).length ≤ 6010 * l.length
  | [], _ => by simp [frms]
  | s :: l, h => by
    have h1 := frms_size l (fun s hs => h s (by simp [hs]))
    have h2 := h s (by simp)
    have h3 := enc_len3 s.size (by omega)
    have h4 := frm_len (ky s)
    rw [ky_len] at h4
    simp only [List.map_cons, frms, List.length_append, List.length_cons]
    omega
theorem frms_small : ∀ (l : List ByteArray), (∀ s ∈ l, s.size ≤ 100) → (frms (l.map ky)).length ≤ 107 * l.length
  | [], _ => by simp [frms]
  | s :: l, h => by
    have h1 := frms_small l (fun s hs => h s (by simp [hs]))
    have h2 := h s (by simp)
    have h3 := enc_len3 s.size (by omega)
    have h4 := frm_len (ky s)
    rw [ky_len] at h4
    simp only [List.map_cons, frms, List.length_append, List.length_cons]
    omega
theorem frms_take_le : ∀ (l : List (List UInt8)) (i : Nat), (frms (l.take i)).length ≤ (frms l).length := by
  intro l i
  conv => rhs; rw [← List.take_append_drop i l]
  rw [frms_app, List.length_append]; omega
theorem frm_le_frms : ∀ (l : List (List UInt8)) (r : List UInt8), r ∈ l → r.length + 5 ≤ (frms l).length
  | [], r, h => by simp at h
  | a :: l, r, h => by
    simp only [frms, List.length_append]
    simp only [List.mem_cons] at h
    rcases h with rfl | h
    · unfold frm
      rw [List.length_append, List.length_append, four_len]
      have := (enc_len (r.length + 1) r.length (by
        have : r.length + 1 < 128 ^ (r.length + 1) := Nat.lt_pow_self (by omega)
        have h2 : 128 ^ (r.length + 1) ≤ 128 ^ (r.length + 1 + 1) := Nat.pow_le_pow_right (by omega) (by omega)
        omega)).1
      omega
    · have := frm_le_frms l r h
      omega
theorem frms_cnt : ∀ (l : List (List UInt8)), l.length ≤ (frms l).length
  | [] => by simp
  | r :: l => by
    have := frms_cnt l
    have h2 := frm_le_frms (r :: l) r (by simp)
    simp only [frms, List.length_append, List.length_cons] at h2 ⊢
    have : 1 ≤ (frm r).length := by
      unfold frm; rw [List.length_append, List.length_append, four_len]; omega
    omega
/-- What the two loops build. -/
theorem scan_loop (n : Nat) (p0 : List ByteArray) (p1 : ByteArray) (p2 : Int) (hn : 7000 ≤ n) (hp : p0.length ≤ 8) (hs : ∀ s ∈ p0, s.size ≤ 100) : ∀ (k i m : Nat), i + k = p0.length → k < m →
    lookoutlaw23_WalScan_l0 n p0 p1 p2 m (fr (p0.take i)) (p0.length : Int) (i : Int) = lookoutlaw23_WalScan_s1 n p0 p1 p2 (fr p0)
  | _, i, 0, h, hk => by omega
  | 0, i, m + 1, h, hk => by
    simp only [lookoutlaw23_WalScan_l0]
    rw [decide_eq_false (show ¬ (i : Int) < (p0.length : Int) by omega), List.take_of_length_le (by omega)]
    rfl
  | k + 1, i, m + 1, h, hk => by
    have h1 : i < p0.length := by omega
    have hz := hs p0[i] (List.getElem_mem h1)
    simp only [lookoutlaw23_WalScan_l0]
    rw [dec_in i p0.length h1, decide_eq_true (show (i : Int) < (p0.length : Int) by omega), toNat_c, getD_s p0 i h1, wr1 i (by omega), Frame_eq n _ (by omega) (by omega)]
    simp only [cond_true, Option.bind_some]
    have hq : (fr (p0.take i) ++ bs (frm (ky p0[i]))).size ≤ 107 * 8 := by
      rw [fr_snoc p0 i h1]
      have h2 := frms_small (p0.take (i + 1)) (fun s h => hs s (List.mem_of_mem_take h))
      rw [List.length_take] at h2
      rw [← ky_len, fr_ky]; omega
    rw [ByteArray.size_append] at hq
    rw [decide_eq_true (show (fr (p0.take i)).size + (bs (frm (ky p0[i]))).size ≤ 9223372036854775807 by omega), fr_snoc p0 i h1]
    simp only [cond_true]
    exact scan_loop n p0 p1 p2 hn hp hs k (i + 1) m (by omega) (by omega)
theorem again_loop (n : Nat) (p0 : List ByteArray) (p1 : ByteArray) (p2 : Int) (r5 : List ByteArray × Int) (s4 : ByteArray) (hn : 9000 ≤ n) (hp : (frms (r5.1.map ky)).length ≤ 2000) : ∀ (k i m : Nat), i + k = r5.1.length → k < m →
    lookoutlaw23_WalScan_l2 n p0 p1 p2 r5 m s4 (fr (r5.1.take i)) (r5.1.length : Int) (i : Int) = lookoutlaw23_WalScan_s3 n p0 p1 p2 r5 s4 (fr r5.1)
  | _, i, 0, h, hk => by omega
  | 0, i, m + 1, h, hk => by
    simp only [lookoutlaw23_WalScan_l2]
    rw [decide_eq_false (show ¬ (i : Int) < (r5.1.length : Int) by omega), List.take_of_length_le (by omega)]
    rfl
  | k + 1, i, m + 1, h, hk => by
    have h1 : i < r5.1.length := by omega
    have hz : (ky r5.1[i]).length + 5 ≤ (frms (r5.1.map ky)).length := frm_le_frms _ _ (List.mem_map.2 ⟨_, List.getElem_mem h1, rfl⟩)
    rw [ky_len] at hz
    simp only [lookoutlaw23_WalScan_l2]
    have hlen := frms_cnt (r5.1.map ky)
    rw [List.length_map] at hlen
    rw [dec_in i r5.1.length h1, decide_eq_true (show (i : Int) < (r5.1.length : Int) by omega), toNat_c, getD_s r5.1 i h1, wr1 i (by omega), Frame_eq n _ (by omega) (by omega)]
    simp only [cond_true, Option.bind_some]
    have hq : (fr (r5.1.take i) ++ bs (frm (ky r5.1[i]))).size ≤ 2000 := by
      rw [fr_snoc r5.1 i h1, ← ky_len, fr_ky, List.map_take]
      have := frms_take_le (r5.1.map ky) (i + 1)
      omega
    rw [ByteArray.size_append] at hq
    rw [decide_eq_true (show (fr (r5.1.take i)).size + (bs (frm (ky r5.1[i]))).size ≤ 9223372036854775807 by omega), fr_snoc r5.1 i h1]
    simp only [cond_true]
    exact again_loop n p0 p1 p2 r5 s4 hn hp k (i + 1) m (by omega) (by omega)
theorem bs_ky_map (l : List ByteArray) : (l.map ky).map bs = l := by
  rw [List.map_map]
  conv => rhs; rw [← List.map_id l]
  exact List.map_congr_left (fun s _ => bs_ky s)
theorem ky_bs_map (l : List (List UInt8)) : (l.map bs).map ky = l := by
  rw [List.map_map]
  conv => rhs; rw [← List.map_id l]
  exact List.map_congr_left (fun s _ => ky_bs s)
theorem recs_frms (rs : List ByteArray) (l : List UInt8) (h : ∀ s ∈ rs, s.size ≤ 262144) : ∃ e, recs (frms (rs.map ky) ++ l) = rs ++ e ∧ extent (frms (rs.map ky) ++ l) = (frms (rs.map ky)).length + extent l := by
  have h' : ∀ r ∈ rs.map ky, r.length ≤ 262144 := by
    intro r hr
    obtain ⟨s, h1, rfl⟩ := List.mem_map.1 hr
    rw [ky_len]; exact h s h1
  have h1 := scanL_app (rs.map ky) (l.length + 1) l h'
  have hle : (rs.map ky).length ≤ (frms (rs.map ky)).length := by
    have := scanL_le ((rs.map ky).length + 1) (frms (rs.map ky))
    have h2 := scanL_app (rs.map ky) 1 [] h'
    rw [List.append_nil, Nat.add_comm 1] at h2
    rw [h2] at this
    simp only [List.length_append] at this
    omega
  have h3 := scanL_fuel ((frms (rs.map ky) ++ l).length + 1) ((l.length + 1) + ((frms (rs.map ky)).length)) (frms (rs.map ky) ++ l) (by omega) (by rw [List.length_append]; omega)
  have h4 := scanL_app (rs.map ky) (l.length + 1 + ((frms (rs.map ky)).length - (rs.map ky).length)) l h'
  have h5 : scanL (l.length + 1 + ((frms (rs.map ky)).length - (rs.map ky).length)) l = scanL (l.length + 1) l := scanL_fuel _ _ _ (by omega) (by omega)
  rw [show l.length + 1 + ((frms (rs.map ky)).length - (rs.map ky).length) + (rs.map ky).length = l.length + 1 + (frms (rs.map ky)).length by omega, ← h3, h5] at h4
  refine ⟨(scanL (l.length + 1) l).1.map bs, ?_, ?_⟩
  · unfold recs
    rw [h4]
    simp only [List.map_append]
    rw [bs_ky_map]
  · unfold extent
    rw [h4]
theorem recs_part (rs : List ByteArray) (c : Nat) (h : ∀ s ∈ rs, s.size ≤ 262144) (hc : c ≤ (frms (rs.map ky)).length) :
    ∃ t u, rs = t ++ u ∧ recs ((frms (rs.map ky)).take c) = t ∧ extent ((frms (rs.map ky)).take c) = (frms (t.map ky)).length ∧ (frms (t.map ky)).length ≤ c ∧ (∀ r u', u = r :: u' → c < (frms (t.map ky)).length + (frm (ky r)).length) := by
  have h' : ∀ r ∈ rs.map ky, r.length ≤ 262144 := by
    intro r hr
    obtain ⟨s, h1, rfl⟩ := List.mem_map.1 hr
    rw [ky_len]; exact h s h1
  have hl : ((frms (rs.map ky)).take c).length = c := by rw [List.length_take]; omega
  obtain ⟨t, u, e1, e2, e3, e4⟩ := scanL_part (rs.map ky) (c + 1 + rs.length) c h' hc (by rw [List.length_map]; omega)
  rw [scanL_fuel _ (((frms (rs.map ky)).take c).length + 1) _ (by omega) (by omega)] at e2
  obtain ⟨t', u', g1, g2, g3⟩ := List.map_eq_append_iff.1 e1
  subst g2 g3
  refine ⟨t', u', g1, ?_, ?_, e3, fun r u'' e => e4 (ky r) (u''.map ky) (by rw [e]; rfl)⟩
  · unfold recs; rw [e2]; exact bs_ky_map t'
  · unfold extent; rw [e2]
theorem walScan_law (p0 : List ByteArray) (p1 : ByteArray) (p2 : Int) (h2 : 0 ≤ p2 ∧ p2 < 65536) : ∃ n, lookoutlaw23_WalScan n p0 p1 p2 = some true := by
  refine ⟨10000, ?_⟩
  show lookoutlaw23_WalScan (9999 + 1) p0 p1 p2 = _
  simp only [lookoutlaw23_WalScan]
  rw [fine_one 9999 p0 _ _ (by omega)]
  simp only [Option.bind_some]
  cases hsm : small p0 with
  | false => rw [awake23]; rfl
  | true =>
    simp only [small, Bool.and_eq_true, decide_eq_true_eq] at hsm
    obtain ⟨hlen, hs⟩ := hsm
    simp only [Bool.not_true, cond_false]
    rcases Nat.lt_or_ge 300 p1.size with hp | hp
    · rw [decide_eq_true (show (p1.size : Int) > 300 by omega), awake23]; rfl
    rw [decide_eq_false (show ¬ (p1.size : Int) > 300 by omega)]
    simp only [cond_false]
    have hl := scan_loop 9999 p0 p1 p2 (by omega) hlen hs p0.length 0 9999 (by omega) (by omega)
    refine Eq.trans hl ?_
    have hf := frms_small p0 hs
    have hfs : (fr p0).size = (frms (p0.map ky)).length := by rw [← ky_len, fr_ky]
    have hts : (fr p0 ++ p1).size = (fr p0).size + p1.size := ByteArray.size_append ..
    have hky : ky (fr p0 ++ p1) = frms (p0.map ky) ++ ky p1 := by rw [ky_app, fr_ky]
    simp only [lookoutlaw23_WalScan_s1]
    rw [decide_eq_true (show (fr p0).size + p1.size ≤ 9223372036854775807 by omega), Scan_eq 9999 _ (by omega) (by omega), hky]
    simp only [cond_true, Option.bind_some]
    have hs' : ∀ s ∈ p0, s.size ≤ 262144 := fun s h => by have := hs s h; omega
    obtain ⟨e, g1, g2⟩ := recs_frms p0 (ky p1) hs'
    have hrl := recs_len (frms (p0.map ky) ++ ky p1)
    have hex := extent_le (ky p1)
    have hex2 := scanL_frms ((frms (p0.map ky) ++ ky p1).length + 1) (frms (p0.map ky) ++ ky p1)
    rw [ky_len] at hex
    rw [List.length_append, ky_len] at hrl
    have hrec : frms ((recs (frms (p0.map ky) ++ ky p1)).map ky) = (frms (p0.map ky) ++ ky p1).take (extent (frms (p0.map ky) ++ ky p1)) := by
      unfold recs extent
      rw [ky_bs_map]; exact hex2
    generalize hR : recs (frms (p0.map ky) ++ ky p1) = R at *
    generalize hE : extent (frms (p0.map ky) ++ ky p1) = E at *
    rw [show lookoutlaw23_prefix 9999 R p0 = some true by rw [g1]; exact prefix_eq 9999 p0 e (by rw [← g1]; omega) (by omega)]
    simp only [Option.bind_some, Bool.not_true, cond_false]
    rw [decide_eq_false (show ¬ (E : Int) < ((fr p0).size : Int) by omega), wr _ (by omega) (by omega), decide_eq_false (show ¬ (E : Int) > ((fr p0).size : Int) + (p1.size : Int) by omega)]
    simp only [cond_false]
    have hRl : (frms (R.map ky)).length ≤ 2000 := by
      rw [hrec, List.length_take, List.length_append, ky_len]; omega
    have ha := again_loop 9999 p0 p1 p2 (R, (E : Int)) (fr p0) (by omega) hRl R.length 0 9999 (by simp) (by omega)
    refine Eq.trans ha ?_
    simp only [lookoutlaw23_WalScan_s3]
    rw [wr p2 (by omega) (by omega), wr1 (fr p0).size (by omega)]
    obtain ⟨q, rfl⟩ : ∃ q : Nat, p2 = q := ⟨p2.toNat, by omega⟩
    have hc : Int.tmod (q : Int) (((fr p0).size + 1 : Nat) : Int) = ((q % ((fr p0).size + 1) : Nat) : Int) := by
      rw [Int.tmod_eq_emod_of_nonneg (by omega)]; rfl
    have hcl : q % ((fr p0).size + 1) < (fr p0).size + 1 := Nat.mod_lt _ (by omega)
    rw [hc]
    generalize q % ((fr p0).size + 1) = c at *
    rw [show ((((fr p0).size + 1 : Nat) : Int) != 0) = true from by rw [bne_iff_ne]; omega, dec3z c (fr p0).size (by omega), toNat_c]
    simp only [cond_true]
    have hce : ky (ByteArray.extract (fr p0) 0 c) = (frms (p0.map ky)).take c := by rw [ky_ext, fr_ky, List.drop_zero]; rfl
    have hcs : (ByteArray.extract (fr p0) 0 c).size ≤ 2000 := by rw [← ky_len, hce, List.length_take]; omega
    rw [Scan_eq 9999 _ (by omega) (by omega), hce]
    simp only [Option.bind_some]
    obtain ⟨t, u, q1, q2, q3, q4, q5⟩ := recs_part p0 c hs' (by omega)
    rw [q2, q3]
    have hT : ∀ s : ByteArray, ((t.length = p0.length) ∨ ((c : Int) - (frms (t.map ky)).length < s.size)) → lookoutlaw23_WalScan_s4 9999 p0 p1 (R, (E : Int)) (t, ((frms (t.map ky)).length : Int)) (fr p0) (fr R) (c : Int) s = some true := by
      intro s hs4
      simp only [lookoutlaw23_WalScan_s4]
      rw [decide_eq_true (show (fr p0).size + p1.size ≤ 9223372036854775807 by omega), dec3z E (fr p0 ++ p1).size (by omega), toNat_c]
      simp only [cond_true]
      have he : fr R = ByteArray.extract (fr p0 ++ p1) 0 E := by
        apply ky_inj; rw [ky_ext, fr_ky, hky, hrec, List.drop_zero]; rfl
      have hpt : lookoutlaw23_prefix 9999 p0 t = some true := by
        rw [q1]; exact prefix_eq 9999 t u (by rw [← q1]; omega) (by have := congrArg List.length q1; rw [List.length_append] at this; omega)
      rw [sEq_eq, decide_eq_true he, hpt, decide_eq_true (show ((frms (t.map ky)).length : Int) ≤ (c : Int) by omega)]
      simp only [cond_true, Option.bind_some]
      by_cases h : t.length = p0.length
      · rw [show (((t.length : Nat) : Int) == ((p0.length : Nat) : Int)) = true from by rw [beq_iff_eq]; omega, awake23]; rfl
      · rw [show (((t.length : Nat) : Int) == ((p0.length : Nat) : Int)) = false from by rw [beq_eq_false_iff_ne]; omega, wr _ (by omega) (by omega)]
        rcases hs4 with h4 | h4
        · exact absurd h4 h
        · rw [decide_eq_true h4, awake23]; rfl
    have hql := congrArg List.length q1
    rw [List.length_append] at hql
    by_cases h : t.length < p0.length
    · rw [dec_in t.length p0.length h, decide_eq_true (show (t.length : Int) < (p0.length : Int) by omega), getD_s p0 t.length h]
      have hz := hs p0[t.length] (List.getElem_mem h)
      rw [Frame_eq 9999 _ (by omega) (by omega)]
      simp only [cond_true, Option.bind_some]
      refine hT _ (.inr ?_)
      cases u with
      | nil => simp at hql; omega
      | cons r u' =>
        have hr : p0[t.length] = r := by
          have : p0[t.length]? = some r := by rw [q1]; simp
          rw [List.getElem?_eq_getElem h] at this
          exact Option.some.inj this
        have := q5 r u' rfl
        rw [hr, bs_size]; omega
    · rw [decide_eq_false (show ¬ (t.length : Int) < (p0.length : Int) by omega)]
      exact hT _ (.inl (by omega))
end Go.Proofs.Ytkignmhjbjgkoaa
