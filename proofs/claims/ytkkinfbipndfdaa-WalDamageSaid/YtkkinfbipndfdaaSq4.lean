/- Plain laws of the log, 4: WalFrames, WalScan. -/
import Derived.Test.YtkkinfbipndfdaaSq3
set_option linter.unusedVariables false
set_option linter.unusedSimpArgs false
set_option maxRecDepth 100000
namespace Go.Proofs.Ytkkinfbipndfdaa
open Go Go.AM

theorem awake23 : lookoutlaw23_awake 9999 = some true := by kernel_rfl

theorem getD_s (l : List ByteArray) (i : Nat) (h : i < l.length) : l.getD i bE = l[i] := by simp [List.getD, h]
theorem equal_l0 (n : Nat) (a b : List ByteArray) (hab : a.length = b.length) (ha : a.length < 1000000000) : ∀ (k i m : Nat), i + k = a.length → k < m →
    slices_Equal_l0 n a b m (a.length : Int) (i : Int) = some (decide (a.drop i = b.drop i))
  | _, i, 0, h, hk => by omega
  | 0, i, m + 1, h, hk => by
    simp only [slices_Equal_l0]
    rw [decide_eq_false (show ¬ (i : Int) < (a.length : Int) by omega), List.drop_eq_nil_of_le (by omega), List.drop_eq_nil_of_le (by omega)]
    rfl
  | k + 1, i, m + 1, h, hk => by
    have h1 : i < a.length := by omega
    have h2 : i < b.length := by omega
    simp only [slices_Equal_l0]
    rw [dec_in i a.length h1, decide_eq_true (show (i : Int) < (a.length : Int) by omega), toNat_c, getD_s a i h1, getD_s b i h2, dec_in i b.length h2, sNe_eq, wr1 i (by omega)]
    simp only [cond_true]
    rw [List.drop_eq_getElem_cons h1, List.drop_eq_getElem_cons h2]
    by_cases e : a[i] = b[i]
    · rw [decide_eq_true e]
      simp only [Bool.not_true, cond_false]
      rw [equal_l0 n a b hab ha k (i + 1) m (by omega) (by omega)]
      congr 1
      rw [Bool.eq_iff_iff, decide_eq_true_eq, decide_eq_true_eq, e]
      exact ⟨fun h => by rw [h], fun h => (List.cons.inj h).2⟩
    · rw [decide_eq_false e]
      simp only [Bool.not_false, cond_true]
      rw [decide_eq_false (fun h => e (List.cons.inj h).1)]
theorem equal_eq (n : Nat) (a b : List ByteArray) (ha : a.length < 1000000000) (hn : a.length + 3 ≤ n) : slices_Equal n a b = some (decide (a = b)) := by
  obtain ⟨m, rfl⟩ : ∃ m, n = m + 1 := ⟨n - 1, by omega⟩
  simp only [slices_Equal]
  by_cases h : a.length = b.length
  · rw [show (((a.length : Nat) : Int) != ((b.length : Nat) : Int)) = false from by rw [bne_eq_false_iff_eq]; omega]
    exact equal_l0 m a b h ha a.length 0 m (by omega) (by omega)
  · rw [show (((a.length : Nat) : Int) != ((b.length : Nat) : Int)) = true from by rw [bne_iff_ne]; omega, decide_eq_false (fun e => h (by rw [e]))]
    rfl
theorem recs_len (l : List UInt8) : (recs l).length ≤ l.length := by
  have := scanL_le (l.length + 1) l
  unfold recs; rw [List.length_map]; omega
theorem extent_le (l : List UInt8) : extent l ≤ l.length := (scanL_le _ _).1

/-! ### Sizes -/
theorem index_l0 (n : Nat) (l : List ByteArray) (hl : l.length < 1000000000) : ∀ (k i m : Nat), i + k = l.length → k < m →
    ∃ z : Int, slices_IndexFunc_l0 (n + 1) l m (l.length : Int) (i : Int) = some z ∧ (decide (z ≥ 0) = !decide (∀ s ∈ l.drop i, s.size ≤ 100))
  | _, i, 0, h, hk => by omega
  | 0, i, m + 1, h, hk => by
    simp only [slices_IndexFunc_l0]
    rw [decide_eq_false (show ¬ (i : Int) < (l.length : Int) by omega), List.drop_eq_nil_of_le (by omega)]
    exact ⟨-1, rfl, by simp⟩
  | k + 1, i, m + 1, h, hk => by
    have h1 : i < l.length := by omega
    simp only [slices_IndexFunc_l0]
    rw [dec_in i l.length h1, decide_eq_true (show (i : Int) < (l.length : Int) by omega), toNat_c, getD_s l i h1, wr1 i (by omega)]
    simp only [cond_true, lookoutlaw23_Fine_c1, Option.bind_some]
    rw [List.drop_eq_getElem_cons h1]
    by_cases e : l[i].size ≤ 100
    · rw [decide_eq_false (show ¬ (l[i].size : Int) > 100 by omega)]
      obtain ⟨z, g1, g2⟩ := index_l0 n l hl k (i + 1) m (by omega) (by omega)
      refine ⟨z, g1, ?_⟩
      rw [g2]
      congr 1
      rw [Bool.eq_iff_iff, decide_eq_true_eq, decide_eq_true_eq, List.forall_mem_cons]
      exact ⟨fun h => ⟨e, h⟩, fun h => h.2⟩
    · rw [decide_eq_true (show (l[i].size : Int) > 100 by omega)]
      refine ⟨i, rfl, ?_⟩
      rw [decide_eq_true (show (i : Int) ≥ 0 by omega), decide_eq_false (fun hh => e (hh _ List.mem_cons_self))]
      rfl
theorem contains_eq (n : Nat) (l : List ByteArray) (hl : l.length < 1000000000) (hn : l.length + 5 ≤ n) : slices_ContainsFunc n l = some (!decide (∀ s ∈ l, s.size ≤ 100)) := by
  obtain ⟨m, rfl⟩ : ∃ m, n = m + 3 := ⟨n - 3, by omega⟩
  obtain ⟨z, g1, g2⟩ := index_l0 m l hl l.length 0 (m + 1) (by omega) (by omega)
  rw [List.drop_zero] at g2
  simp only [slices_ContainsFunc, slices_IndexFunc]
  refine Eq.trans (congrArg (fun z => Option.bind z _) g1) ?_
  simp only [Option.bind_some]
  rw [g2]
def small (l : List ByteArray) : Bool := decide (l.length ≤ 8) && decide (∀ s ∈ l, s.size ≤ 100)
theorem fine_one (n : Nat) (l : List ByteArray) (k c : Int) (hn : 30 ≤ n) : lookoutlaw23_Fine n [(⟨k, l, c, []⟩ : Glookoutlaw23_Act)] = some (small l) := by
  obtain ⟨m, rfl⟩ : ∃ m, n = m + 3 := ⟨n - 3, by omega⟩
  simp only [lookoutlaw23_Fine, lookoutlaw23_Fine_l0]
  have e0 : ([(⟨k, l, c, []⟩ : Glookoutlaw23_Act)].getD (0 : Int).toNat dGlookoutlaw23_Act) = ⟨k, l, c, []⟩ := rfl
  have e1 : ([(⟨k, l, c, []⟩ : Glookoutlaw23_Act)].length : Int) = 1 := rfl
  rw [e0, e1]
  simp only [List.length_nil]
  rw [show decide ((0 : Int) < 1) = true from rfl, show decide ((0 : Int) ≤ 0) = true from rfl, show decide (((0 : Nat) : Int) > 10) = false from rfl]
  simp only [cond_true, cond_false, Bool.and_self]
  unfold small
  by_cases h : l.length ≤ 8
  · rw [decide_eq_false (show ¬ (l.length : Int) > 8 by omega), decide_eq_true h, contains_eq (m + 2) l (by omega) (by omega)]
    simp only [Option.bind_some, cond_false, Bool.true_and]
    cases decide (∀ s ∈ l, s.size ≤ 100) <;> rfl
  · rw [decide_eq_true (show (l.length : Int) > 8 by omega), decide_eq_false h]; rfl

/-! ### WalScan -/
theorem frms_app : ∀ (a b : List (List UInt8)), frms (a ++ b) = frms a ++ frms b
  | [], _ => rfl
  | r :: a, b => by simp only [List.cons_append, frms, frms_app a b, List.append_assoc]
def fr (l : List ByteArray) : ByteArray := bs (frms (l.map ky))
theorem fr_snoc (l : List ByteArray) (i : Nat) (h : i < l.length) : fr (l.take i) ++ bs (frm (ky l[i])) = fr (l.take (i + 1)) := by
  apply ky_inj
  unfold fr
  rw [ky_app, ky_bs, ky_bs, ky_bs, List.take_succ_eq_append_getElem h, List.map_append, frms_app]
  simp [frms]
theorem fr_ky (l : List ByteArray) : ky (fr l) = frms (l.map ky) := ky_bs _
theorem frms_size : ∀ (l : List ByteArray), (∀ s ∈ l, s.size ≤ 6000) → (frms (l.map ky)).length ≤ 6010 * l.length
  | [], _ => by simp [frms]
  | s :: l, h => by
    have h1 := frms_size l (fun s hs => h s (by simp [hs]))
    have h2 := h s (by simp)
    have h3 := enc_len3 s.size (by omega)
    have h4 := frm_len (ky s)
    rw [ky_len] at h4
    simp only [List.map_cons, frms, List.length_append, List.length_cons]
    omega
theorem frms_small : ∀ (l : List ByteArray), (∀ s ∈ l, s.size ≤ 100) → (frms (l.map ky)).length ≤ 107 * l.length
  | [], _ => by simp [frms]
  | s :: l, h => by
    have h1 := frms_small l (fun s hs => h s (by simp [hs]))
    have h2 := h s (by simp)
    have h3 := enc_len3 s.size (by omega)
    have h4 := frm_len (ky s)
    rw [ky_len] at h4
    simp only [List.map_cons, frms, List.length_append, List.length_cons]
    omega
theorem frms_take_le : ∀ (l : List (List UInt8)) (i : Nat), (frms (l.take i)).length ≤ (frms l).length := by
  intro l i
  conv => rhs; rw [← List.take_append_drop i l]
  rw [frms_app, List.length_append]; omega
theorem frm_le_frms : ∀ (l : List (List UInt8)) (r : List UInt8), r ∈ l → r.length + 5 ≤ (frms l).length
  | [], r, h => by simp at h
  | a :: l, r, h => by
    simp only [frms, List.length_append]
    simp only [List.mem_cons] at h
    rcases h with rfl | h
    · unfold frm
      rw [List.length_append, List.length_append, four_len]
      have := (enc_len (r.length + 1) r.length (by
        have : r.length + 1 < 128 ^ (r.length + 1) := Nat.lt_pow_self (by omega)
        have h2 : 128 ^ (r.length + 1) ≤ 128 ^ (r.length + 1 + 1) := Nat.pow_le_pow_right (by omega) (by omega)
        omega)).1
      omega
    · have := frm_le_frms l r h
      omega
theorem frms_cnt : ∀ (l : List (List UInt8)), l.length ≤ (frms l).length
  | [] => by simp
  | r :: l => by
    have := frms_cnt l
    have h2 := frm_le_frms (r :: l) r (by simp)
    simp only [frms, List.length_append, List.length_cons] at h2 ⊢
    have : 1 ≤ (frm r).length := by
      unfold frm; rw [List.length_append, List.length_append, four_len]; omega
    omega
theorem bs_ky_map (l : List ByteArray) : (l.map ky).map bs = l := by
  rw [List.map_map]
  conv => rhs; rw [← List.map_id l]
  exact List.map_congr_left (fun s _ => bs_ky s)
theorem ky_bs_map (l : List (List UInt8)) : (l.map bs).map ky = l := by
  rw [List.map_map]
  conv => rhs; rw [← List.map_id l]
  exact List.map_congr_left (fun s _ => ky_bs s)
theorem recs_frms (rs : List ByteArray) (l : List UInt8) (h : ∀ s ∈ rs, s.size ≤ 262144) : ∃ e, recs (frms (rs.map ky) ++ l) = rs ++ e ∧ extent (frms (rs.map ky) ++ l) = (frms (rs.map ky)).length + extent l := by
  have h' : ∀ r ∈ rs.map ky, r.length ≤ 262144 := by
    intro r hr
    obtain ⟨s, h1, rfl⟩ := List.mem_map.1 hr
    rw [ky_len]; exact h s h1
  have h1 := scanL_app (rs.map ky) (l.length + 1) l h'
  have hle : (rs.map ky).length ≤ (frms (rs.map ky)).length := by
    have := scanL_le ((rs.map ky).length + 1) (frms (rs.map ky))
    have h2 := scanL_app (rs.map ky) 1 [] h'
    rw [List.append_nil, Nat.add_comm 1] at h2
    rw [h2] at this
    simp only [List.length_append] at this
    omega
  have h3 := scanL_fuel ((frms (rs.map ky) ++ l).length + 1) ((l.length + 1) + ((frms (rs.map ky)).length)) (frms (rs.map ky) ++ l) (by omega) (by rw [List.length_append]; omega)
  have h4 := scanL_app (rs.map ky) (l.length + 1 + ((frms (rs.map ky)).length - (rs.map ky).length)) l h'
  have h5 : scanL (l.length + 1 + ((frms (rs.map ky)).length - (rs.map ky).length)) l = scanL (l.length + 1) l := scanL_fuel _ _ _ (by omega) (by omega)
  rw [show l.length + 1 + ((frms (rs.map ky)).length - (rs.map ky).length) + (rs.map ky).length = l.length + 1 + (frms (rs.map ky)).length by omega, ← h3, h5] at h4
  refine ⟨(scanL (l.length + 1) l).1.map bs, ?_, ?_⟩
  · unfold recs
    rw [h4]
    simp only [List.map_append]
    rw [bs_ky_map]
  · unfold extent
    rw [h4]
theorem recs_part (rs : List ByteArray) (c : Nat) (h : ∀ s ∈ rs, s.size ≤ 262144) (hc : c ≤ (frms (rs.map ky)).length) :
    ∃ t u, rs = t ++ u ∧ recs ((frms (rs.map ky)).take c) = t ∧ extent ((frms (rs.map ky)).take c) = (frms (t.map ky)).length ∧ (frms (t.map ky)).length ≤ c ∧ (∀ r u', u = r :: u' → c < (frms (t.map ky)).length + (frm (ky r)).length) := by
  have h' : ∀ r ∈ rs.map ky, r.length ≤ 262144 := by
    intro r hr
    obtain ⟨s, h1, rfl⟩ := List.mem_map.1 hr
    rw [ky_len]; exact h s h1
  have hl : ((frms (rs.map ky)).take c).length = c := by rw [List.length_take]; omega
  obtain ⟨t, u, e1, e2, e3, e4⟩ := scanL_part (rs.map ky) (c + 1 + rs.length) c h' hc (by rw [List.length_map]; omega)
  rw [scanL_fuel _ (((frms (rs.map ky)).take c).length + 1) _ (by omega) (by omega)] at e2
  obtain ⟨t', u', g1, g2, g3⟩ := List.map_eq_append_iff.1 e1
  subst g2 g3
  refine ⟨t', u', g1, ?_, ?_, e3, fun r u'' e => e4 (ky r) (u''.map ky) (by rw [e]; rfl)⟩
  · unfold recs; rw [e2]; exact bs_ky_map t'
  · unfold extent; rw [e2]
end Go.Proofs.Ytkkinfbipndfdaa
