/- Plain laws of the log, 3: frames. -/
import Derived.Test.YtkkinfbipndfdaaSq2
set_option linter.unusedVariables false
set_option linter.unusedSimpArgs false
set_option maxRecDepth 100000
namespace Go.Proofs.Ytkkinfbipndfdaa
open Go Go.AM

theorem ky_ext (s : ByteArray) (i j : Nat) : ky (s.extract i j) = ((ky s).drop i).take (j - i) := by
  simp [ky, List.extract_eq_take_drop]
theorem ky_sealed (s : ByteArray) : ky (sealed s) = ky s ++ four (crc (ky s)) := by
  unfold sealed; rw [ky_app]
theorem four_len (x : BitVec 32) : (four x).length = 4 := rfl

/-- A record's frame. -/
def frm (r : List UInt8) : List UInt8 := enc r.length ++ r ++ four (crc (enc r.length ++ r))
theorem enc_len3 (x : Nat) (h : x ≤ 262144) : 1 ≤ (enc x).length ∧ (enc x).length ≤ 3 := enc_len 2 x (by omega)
theorem frm_len (r : List UInt8) : (frm r).length = (enc r.length).length + r.length + 4 := by
  unfold frm; rw [List.length_append, List.length_append, four_len]
/-- The record at the beginning of bytes, and its frame's length. -/
def frame1 (l : List UInt8) : Option (List UInt8 × Nat) :=
  let r := vread l
  if r.2.2 = 0 ∧ r.1 ≤ 262144 ∧ r.1 + r.2.1 + 4 ≤ l.length then
    (let t := l.take (r.2.1.toNat + r.1.toNat)
     if l.take (r.2.1.toNat + r.1.toNat + 4) = t ++ four (crc t) then some (t.drop r.2.1.toNat, r.2.1.toNat + r.1.toNat + 4) else none)
  else none
theorem frame1_frm (r l : List UInt8) (h : r.length ≤ 262144) : frame1 (frm r ++ l) = some (r, (frm r).length) := by
  have e : frm r ++ l = enc r.length ++ (r ++ (four (crc (enc r.length ++ r)) ++ l)) := by simp [frm]
  have hv : vread (frm r ++ l) = ((r.length : Int), ((enc r.length).length : Int), 0) := by rw [e]; exact vread_enc _ _ (by omega)
  unfold frame1
  simp only [hv]
  have hl := frm_len r
  rw [if_pos ⟨trivial, by omega, by rw [List.length_append]; omega⟩]
  have e1 : (frm r ++ l).take ((enc r.length).length + r.length) = enc r.length ++ r := by
    rw [show frm r ++ l = (enc r.length ++ r) ++ (four (crc (enc r.length ++ r)) ++ l) by simp [frm], ← List.length_append, List.take_left]
  have e2 : (frm r ++ l).take ((enc r.length).length + r.length + 4) = frm r := by
    rw [← hl]; simp
  simp only [toNat_c]
  rw [e1, e2, if_pos (by rfl)]
  simp [hl]
theorem frame1_inv {l r : List UInt8} {k : Nat} (h : frame1 l = some (r, k)) : r.length ≤ 262144 ∧ k = (frm r).length ∧ ∃ l', l = frm r ++ l' := by
  unfold frame1 at h
  obtain ⟨v, c, e, hv⟩ : ∃ v c e, vread l = (v, c, e) := ⟨_, _, _, rfl⟩
  simp only [hv] at h
  by_cases h1 : e = 0 ∧ v ≤ 262144 ∧ v + c + 4 ≤ l.length
  · rw [if_pos h1] at h
    obtain ⟨rfl, h2, h3⟩ := h1
    obtain ⟨x, l', e1, rfl, rfl, hx⟩ := vread_dec l v c hv
    simp only [toNat_c] at h
    have hl : l.length = (enc x).length + l'.length := by rw [e1, List.length_append]
    have hx' : x ≤ l'.length := by omega
    have e2 : l.take ((enc x).length + x) = enc x ++ l'.take x := by
      rw [e1, List.take_append, List.take_of_length_le (by omega), show (enc x).length + x - (enc x).length = x by omega]
    rw [e2] at h
    by_cases h4 : l.take ((enc x).length + x + 4) = (enc x ++ l'.take x) ++ four (crc (enc x ++ l'.take x))
    · rw [if_pos h4] at h
      simp only [Option.some.injEq, Prod.mk.injEq] at h
      obtain ⟨hr, hk⟩ := h
      rw [List.drop_append_of_le_length (by omega), List.drop_length, List.nil_append] at hr
      have hrl : r.length = x := by rw [← hr, List.length_take]; omega
      have hf : frm r = l.take ((enc x).length + x + 4) := by
        rw [h4]; unfold frm; rw [hrl, ← hr]
      refine ⟨by omega, ?_, l.drop ((enc x).length + x + 4), ?_⟩
      · rw [frm_len, hrl]; exact hk.symm
      · rw [hf, List.take_append_drop]
    · rw [if_neg h4] at h; exact absurd h (by simp)
  · rw [if_neg h1] at h; exact absurd h (by simp)
theorem frame1_len {l r : List UInt8} {k : Nat} (h : frame1 l = some (r, k)) : 5 ≤ k ∧ k ≤ l.length ∧ k = (enc r.length).length + r.length + 4 := by
  obtain ⟨h1, h2, l', h3⟩ := frame1_inv h
  have := frm_len r
  have h4 := enc_len3 r.length h1
  have := congrArg List.length h3
  rw [List.length_append] at this
  omega
/-- A part of a frame is none. -/
theorem frame1_part (r : List UInt8) (c : Nat) (h : r.length ≤ 262144) (hc : c < (frm r).length) : frame1 ((frm r).take c) = none := by
  cases he : frame1 ((frm r).take c) with
  | none => rfl
  | some p =>
    obtain ⟨r', k⟩ := p
    obtain ⟨h1, h2, l', h3⟩ := frame1_inv he
    have e : frm r = frm r' ++ (l' ++ (frm r).drop c) := by
      rw [← List.append_assoc, ← h3, List.take_append_drop]
    have g1 := frame1_frm r' (l' ++ (frm r).drop c) h1
    have g2 := frame1_frm r [] h
    rw [← e] at g1
    rw [List.append_nil, g1] at g2
    simp only [Option.some.injEq, Prod.mk.injEq] at g2
    have := congrArg List.length h3
    rw [List.length_append, List.length_take] at this
    omega

/-- All records at the beginning. -/
def scanL : Nat → List UInt8 → List (List UInt8) × Nat
  | 0, _ => ([], 0)
  | m + 1, l => match frame1 l with
    | none => ([], 0)
    | some (r, k) => (r :: (scanL m (l.drop k)).1, k + (scanL m (l.drop k)).2)
def recs (l : List UInt8) : List ByteArray := (scanL (l.length + 1) l).1.map bs
def extent (l : List UInt8) : Nat := (scanL (l.length + 1) l).2
theorem scanL_le : ∀ (m : Nat) (l : List UInt8), (scanL m l).2 ≤ l.length ∧ 5 * (scanL m l).1.length ≤ (scanL m l).2
  | 0, l => ⟨Nat.zero_le _, Nat.zero_le _⟩
  | m + 1, l => by
    rw [scanL]
    cases he : frame1 l with
    | none => exact ⟨Nat.zero_le _, Nat.zero_le _⟩
    | some p =>
      obtain ⟨r, k⟩ := p
      have h1 := frame1_len he
      have h2 := scanL_le m (l.drop k)
      rw [List.length_drop] at h2
      simp only [List.length_cons]
      omega
theorem scanL_fuel : ∀ (m m' : Nat) (l : List UInt8), l.length < m → l.length < m' → scanL m l = scanL m' l
  | 0, _, l, h, _ => by omega
  | _, 0, l, _, h => by omega
  | m + 1, m' + 1, l, h, h' => by
    rw [scanL, scanL]
    cases he : frame1 l with
    | none => rfl
    | some p =>
      obtain ⟨r, k⟩ := p
      have h1 := frame1_len he
      simp only
      rw [scanL_fuel m m' (l.drop k) (by rw [List.length_drop]; omega) (by rw [List.length_drop]; omega)]
/-- The frames of records. -/
def frms : List (List UInt8) → List UInt8
  | [] => []
  | r :: l => frm r ++ frms l
theorem scanL_frms : ∀ (m : Nat) (l : List UInt8), frms (scanL m l).1 = l.take (scanL m l).2
  | 0, l => by simp [scanL, frms]
  | m + 1, l => by
    rw [scanL]
    cases he : frame1 l with
    | none => simp [frms]
    | some p =>
      obtain ⟨r, k⟩ := p
      obtain ⟨h1, h2, l', h3⟩ := frame1_inv he
      simp only [frms]
      rw [scanL_frms m, h2]
      have : l.drop (frm r).length = l' := by rw [h3]; simp
      rw [this]
      conv => rhs; rw [h3]
      rw [List.take_append, List.take_of_length_le (show (frm r).length ≤ (frm r).length + (scanL m l').2 by omega), Nat.add_sub_cancel_left]
/-- Records are read; then what stands behind them. -/
theorem scanL_app : ∀ (rs : List (List UInt8)) (m : Nat) (l : List UInt8), (∀ r ∈ rs, r.length ≤ 262144) → scanL (m + rs.length) (frms rs ++ l) = (rs ++ (scanL m l).1, (frms rs).length + (scanL m l).2)
  | [], m, l, h => by simp [frms]
  | r :: rs, m, l, h => by
    have hr := h r (by simp)
    rw [List.length_cons, ← Nat.add_assoc, scanL]
    simp only [frms]
    rw [List.append_assoc, frame1_frm r _ hr]
    simp only
    rw [List.drop_left, scanL_app rs m l (fun r hr => h r (by simp [hr]))]
    simp [Nat.add_assoc]
/-- A part of the frames. -/
theorem scanL_part : ∀ (rs : List (List UInt8)) (m c : Nat), (∀ r ∈ rs, r.length ≤ 262144) → c ≤ (frms rs).length → rs.length < m →
    ∃ t u, rs = t ++ u ∧ scanL m ((frms rs).take c) = (t, (frms t).length) ∧ (frms t).length ≤ c ∧ (∀ r u', u = r :: u' → c < (frms t).length + (frm r).length)
  | [], m, c, h, hc, hm => by
    obtain ⟨m, rfl⟩ : ∃ k, m = k + 1 := ⟨m - 1, by omega⟩
    refine ⟨[], [], rfl, ?_, Nat.zero_le _, fun r u' h => by simp at h⟩
    simp only [frms, List.take_nil]
    rw [scanL]
    rfl
  | r :: rs, m, c, h, hc, hm => by
    obtain ⟨m, rfl⟩ : ∃ k, m = k + 1 := ⟨m - 1, by omega⟩
    have hr := h r (by simp)
    simp only [frms] at hc ⊢
    by_cases h1 : c < (frm r).length
    · refine ⟨[], r :: rs, rfl, ?_, Nat.zero_le _, fun r' u' e => ?_⟩
      · rw [scanL, List.take_append_of_le_length (by omega), frame1_part r c hr h1]; rfl
      · simp only [List.cons.injEq] at e
        rw [← e.1]; simp only [frms, List.length_nil]; omega
    · obtain ⟨t, u, e1, e2, e3, e4⟩ := scanL_part rs m (c - (frm r).length) (fun r hr => h r (by simp [hr])) (by rw [List.length_append] at hc; omega) (by rw [List.length_cons] at hm; omega)
      refine ⟨r :: t, u, by rw [e1]; rfl, ?_, ?_, fun r' u' e => ?_⟩
      · rw [scanL, List.take_append, List.take_of_length_le (by omega), frame1_frm r _ hr]
        simp only
        rw [List.drop_left, e2]
        simp [frms]
      · simp only [frms, List.length_append]; omega
      · have := e4 r' u' e
        simp only [frms, List.length_append]; omega

/-! ### The program's and the reference's -/
theorem Frame_eq (n : Nat) (s : ByteArray) (hs : s.size ≤ 262144) (hn : s.size + 100 ≤ n) : wal_Frame n s = some (bs (frm (ky s))) := by
  obtain ⟨m, rfl⟩ : ∃ m, n = m + 1 := ⟨n - 1, by omega⟩
  have h3 := enc_len3 s.size hs
  simp only [wal_Frame]
  rw [show decide ((s.size : Int) > 262144) = false from decide_eq_false (by omega), Append_eq m bE s.size (by omega) (by decide) (by omega)]
  simp only [cond_false, Option.bind_some]
  have e0 : (bE ++ bs (enc s.size)) = bs (enc s.size) := by apply ky_inj; rw [ky_app]; rfl
  rw [e0, bs_size, show decide ((enc s.size).length + s.size ≤ 9223372036854775807) = true from decide_eq_true (by omega)]
  simp only [cond_true]
  rw [seal_eq m _ (by rw [ByteArray.size_append, bs_size]; omega) (by rw [ByteArray.size_append, bs_size]; omega)]
  simp only [Option.bind_some]
  congr 1
theorem ky_tail (t : ByteArray) (k : Nat) : ky (t.extract k t.size) = (ky t).drop k := by
  rw [ky_ext, List.take_of_length_le (by rw [List.length_drop, ky_len]; omega)]
/-- The opened string, as bytes. -/
theorem opened_ky (s : ByteArray) (c : Nat) (hc : s.size = c + 4) : opened s = if ky s = (ky s).take c ++ four (crc ((ky s).take c)) then some (bs ((ky s).take c)) else none := by
  have e1 : s.extract 0 (s.size - 4) = bs ((ky s).take c) := by
    apply ky_inj; rw [ky_ext, ky_bs, List.drop_zero]; congr 1; omega
  unfold opened
  rw [e1]
  by_cases h : ky s = (ky s).take c ++ four (crc ((ky s).take c))
  · rw [if_pos h, if_pos ⟨by omega, by apply ky_inj; rw [ky_sealed, ky_bs]; exact h.symm⟩]
  · rw [if_neg h, if_neg (fun hh => h ?_)]
    have := congrArg ky hh.2
    rw [ky_sealed, ky_bs] at this
    exact this.symm
/-- One frame at a place, in the words of both. -/
theorem frame_at (s : ByteArray) (i : Nat) (hi : i ≤ s.size) (hs : s.size < 1000000000) : ∃ v c e : Int, vread ((ky s).drop i) = (v, c, e) ∧
    ((e ≠ 0 ∧ frame1 ((ky s).drop i) = none) ∨ (e = 0 ∧ ∃ x k : Nat, v = x ∧ c = k ∧ 1 ≤ k ∧ k ≤ 9 ∧ x ≤ 1152921504606846976 ∧
      ((¬ (x ≤ 262144 ∧ x + k + 4 ≤ s.size - i) ∧ frame1 ((ky s).drop i) = none) ∨ (x ≤ 262144 ∧ x + k + 4 ≤ s.size - i ∧
        (∀ q : ByteArray, ky q = ((ky s).drop i).take (k + x + 4) → q.size = k + x + 4 ∧ ((opened q = none ∧ frame1 ((ky s).drop i) = none) ∨ ∃ t : ByteArray, opened q = some t ∧ t.size = k + x ∧ frame1 ((ky s).drop i) = some (ky (t.extract k t.size), k + x + 4))))))) := by
  obtain ⟨v, c, e, hv⟩ : ∃ v c e, vread ((ky s).drop i) = (v, c, e) := ⟨_, _, _, rfl⟩
  refine ⟨v, c, e, hv, ?_⟩
  by_cases he : e = 0
  · subst he
    obtain ⟨x, l', e1, rfl, rfl, hx⟩ := vread_dec _ v c hv
    have hk := enc_len 8 x (by have := p60; omega)
    refine .inr ⟨rfl, x, (enc x).length, rfl, rfl, hk.1, hk.2, hx, ?_⟩
    by_cases h2 : x ≤ 262144 ∧ x + (enc x).length + 4 ≤ s.size - i
    · refine .inr ⟨h2.1, h2.2, fun q hq => ?_⟩
      have hqs : q.size = (enc x).length + x + 4 := by
        rw [← ky_len, hq, List.length_take, List.length_drop, ky_len]; omega
      refine ⟨hqs, ?_⟩
      have hf : frame1 ((ky s).drop i) = if ky q = (ky q).take ((enc x).length + x) ++ four (crc ((ky q).take ((enc x).length + x))) then some (((ky q).take ((enc x).length + x)).drop (enc x).length, (enc x).length + x + 4) else none := by
        unfold frame1
        simp only [hv, toNat_c]
        rw [if_pos ⟨trivial, by omega, by rw [List.length_drop, ky_len]; omega⟩, hq, List.take_take, show min ((enc x).length + x) ((enc x).length + x + 4) = (enc x).length + x by omega]
      rw [hf, opened_ky q ((enc x).length + x) hqs]
      by_cases h3 : ky q = (ky q).take ((enc x).length + x) ++ four (crc ((ky q).take ((enc x).length + x)))
      · rw [if_pos h3, if_pos h3]
        have hts : (bs ((ky q).take ((enc x).length + x))).size = (enc x).length + x := by
          rw [bs_size, List.length_take, ky_len]; omega
        refine .inr ⟨_, rfl, hts, ?_⟩
        rw [ky_tail, ky_bs]
      · rw [if_neg h3, if_neg h3]; exact .inl ⟨rfl, rfl⟩
    · refine .inl ⟨h2, ?_⟩
      unfold frame1
      simp only [hv]
      rw [if_neg (fun hh => h2 ⟨by omega, ?_⟩)]
      have := hh.2.2
      rw [List.length_drop, ky_len] at this
      omega
  · refine .inl ⟨he, ?_⟩
    unfold frame1
    simp only [hv]
    rw [if_neg (fun hh => he hh.1)]
theorem room16 (x : Nat) (h : x < 1000000000) : (true && (decide ((x + 1) * 16 ≤ 140737488355328) && decide (x + 1 ≤ 9223372036854775807))) = true := by
  simp; omega
theorem scan_l0 (n : Nat) (s : ByteArray) (hs : s.size < 1000000000) (hn : s.size + 100 ≤ n) : ∀ (m i : Nat) (l : List ByteArray), i ≤ s.size → s.size - i < m → l.length ≤ i →
    wal_frames_c1_l0 n s m (i : Int) l (i : Int) = some (l ++ (scanL m ((ky s).drop i)).1.map bs, ((i + (scanL m ((ky s).drop i)).2 : Nat) : Int), s)
  | 0, i, l, hi, hm, hl => by omega
  | m + 1, i, l, hi, hm, hl => by
    have hd : ky (ByteArray.extract s i s.size) = (ky s).drop i := by rw [ky_ext, List.take_of_length_le (by rw [List.length_drop, ky_len]; omega)]
    have hz : (ByteArray.extract s i s.size).size ≤ s.size := by rw [← ky_len, hd, List.length_drop, ky_len]; omega
    simp only [wal_frames_c1_l0]
    rw [dec3 i s.size s.size hi (by omega), toNat_c, Read_eq n _ (by omega) (by omega), hd]
    simp only [cond_true, Option.bind_some]
    rw [scanL]
    obtain ⟨v, c, e, hv, hf⟩ := frame_at s i hi hs
    rw [hv]
    simp only
    rcases hf with ⟨he, hf⟩ | ⟨rfl, x, k, rfl, rfl, hk1, hk9, hx, hf⟩
    · rw [hf, show (e != 0) = true from by rw [bne_iff_ne]; exact he]
      simp
    · have w1 : IntKind.wrap .i64 (IntKind.wrap .i64 (IntKind.wrap .i64 ((s.size : Int) - (i : Int)) - (k : Int)) - 4) = (s.size : Int) - i - k - 4 := by
        rw [wr ((s.size : Int) - (i : Int)) (by omega) (by omega), wr ((s.size : Int) - (i : Int) - (k : Int)) (by omega) (by omega), wr _ (by omega) (by omega)]
      have w0 : ∀ X : Int × Int × ByteArray, ((0 : Int) != 0) = false := fun _ => rfl
      rw [w1, show ((0 : Int) != 0) = false from rfl]
      simp only [cond_false]
      rcases hf with ⟨hb, hf⟩ | ⟨hx2, hb, hf⟩
      · rw [hf]
        by_cases h1 : (x : Int) > 262144
        · rw [decide_eq_true h1]; simp
        · rw [decide_eq_false h1, decide_eq_true (show (x : Int) > (s.size : Int) - i - k - 4 by omega)]; simp
      · rw [decide_eq_false (show ¬ (x : Int) > 262144 by omega), decide_eq_false (show ¬ (x : Int) > (s.size : Int) - i - k - 4 by omega)]
        have w2 : IntKind.wrap .i64 (IntKind.wrap .i64 (IntKind.wrap .i64 ((i : Int) + (k : Int)) + (x : Int)) + 4) = ((i + k + x + 4 : Nat) : Int) := by
          rw [wr ((i : Int) + (k : Int)) (by omega) (by omega), wr ((i : Int) + (k : Int) + (x : Int)) (by omega) (by omega), wr _ (by omega) (by omega)]; omega
        rw [w2, dec3 i (i + k + x + 4) s.size (by omega) (by omega), toNat_c]
        simp only [cond_true, cond_false]
        obtain ⟨hq, hf⟩ := hf (ByteArray.extract s i (i + k + x + 4)) (by rw [ky_ext]; congr 1; omega)
        rw [open_eq n _ (by omega) (by omega)]
        simp only [Option.bind_some]
        rcases hf with ⟨ho, hf⟩ | ⟨t, ho, ht, hf⟩
        · rw [ho, hf, hq]
          simp only
          rw [if_neg (by omega)]
          simp
        · rw [ho, hf]
          simp only
          rw [show ((0 : Int) != 0) = false from rfl, dec3 k t.size t.size (by omega) (by omega)]
          obtain ⟨n', rfl⟩ : ∃ n', n = n' + 1 := ⟨n - 1, by omega⟩
          simp only [cond_true, cond_false, wal_Scan_r0]
          rw [room16 _ (by omega)]
          simp only [cond_true, Option.bind_some]
          rw [scan_l0 (n' + 1) s hs hn m (i + k + x + 4) _ (by omega) (by omega) (by rw [List.length_append, List.length_singleton]; omega)]
          rw [List.drop_drop, show i + (k + x + 4) = i + k + x + 4 by omega, toNat_c]
          simp only [List.map_cons, bs_ky, List.append_assoc, List.singleton_append]
          congr 3
          omega
theorem Scan_eq (n : Nat) (s : ByteArray) (hs : s.size < 1000000000) (hn : s.size + 200 ≤ n) : wal_Scan n s = some (recs (ky s), (extent (ky s) : Int)) := by
  obtain ⟨m, rfl⟩ : ∃ m, n = m + 2 := ⟨n - 2, by omega⟩
  simp only [wal_Scan, wal_frames, wal_frames_c1, Option.bind_some, wal_Scan_s0]
  have := scan_l0 m s hs (by omega) m 0 [] (by omega) (by omega) (by simp)
  rw [List.drop_zero, scanL_fuel m ((ky s).length + 1) (ky s) (by rw [ky_len]; omega) (by omega)] at this
  refine Eq.trans (congrArg (fun z => Option.bind z _) this) ?_
  simp [recs, extent]
end Go.Proofs.Ytkkinfbipndfdaa
