/- Plain laws of the log: WalDamage. -/
import Derived.Test.YtkkinfbipndfdaaSq4
import Derived.Test.YtkkinfbipndfdaaWd1
set_option linter.unusedVariables false
set_option linter.unusedSimpArgs false
set_option maxRecDepth 100000
namespace Go.Proofs.Ytkkinfbipndfdaa
open Go Go.AM

/-! ### Bytes as numbers -/
def ints (l : List UInt8) : List Int := l.map fun b => (b.toNat : Int)
theorem bytesL_ints (s : ByteArray) : bytesL s = ints (ky s) := rfl
theorem ints_len (l : List UInt8) : (ints l).length = l.length := by simp [ints]
theorem ints_app (a b : List UInt8) : ints (a ++ b) = ints a ++ ints b := by simp [ints]
theorem ints_getD (l : List UInt8) (i : Nat) : (ints l).getD i 0 = ((l.getD i 0).toNat : Int) := by
  simp only [ints, List.getD, List.getElem?_map]
  cases l[i]? <;> rfl
theorem ints_set (l : List UInt8) (i : Nat) (b : UInt8) : (ints l).set i (b.toNat : Int) = ints (l.set i b) := by
  simp [ints, List.map_set]
theorem bytesOf_ints (l : List UInt8) : bytesOf (ints l) = bs l := by
  unfold bytesOf ints bs
  congr 1
  congr 1
  rw [List.map_map]
  conv => rhs; rw [← List.map_id l]
  exact List.map_congr_left fun b _ => by simp
theorem xor8 (a b : UInt8) : iXor .u8 (a.toNat : Int) (b.toNat : Int) = ((a ^^^ b).toNat : Int) := by
  have ha := a.toNat_lt
  have hb := b.toNat_lt
  show IntKind.wrap .u8 ((BitVec.ofInt 8 (a.toNat : Int) ^^^ BitVec.ofInt 8 (b.toNat : Int)).toNat) = _
  have e : (BitVec.ofInt 8 (a.toNat : Int) ^^^ BitVec.ofInt 8 (b.toNat : Int)).toNat = (a ^^^ b).toNat := by
    rw [BitVec.toNat_xor, UInt8.toNat_xor]
    simp only [BitVec.ofInt_natCast, BitVec.toNat_ofNat]
    rw [Nat.mod_eq_of_lt (by omega), Nat.mod_eq_of_lt (by omega)]
  rw [e]
  have := (a ^^^ b).toNat_lt
  generalize (a ^^^ b).toNat = z at *
  simp only [IntKind.wrap, IntKind.bits, IntKind.signed, Bool.false_and]
  simp; omega

/-! ### Damage -/
def dmg (lim : Nat) : List UInt8 → Nat → List UInt8 → List UInt8
  | [], _, l => l
  | x :: xs, q, l => dmg lim xs (q + 1) (if q < lim then l.set q (l.getD q 0 ^^^ x) else l)
def hit (lim : Nat) : List UInt8 → Nat → Bool
  | [], _ => false
  | x :: xs, q => (decide (q < lim) && x != 0) || hit lim xs (q + 1)
def xr : List UInt8 → List UInt8 → List UInt8
  | v :: vs, x :: xs => (v ^^^ x) :: xr vs xs
  | vs, [] => vs
  | [], _ => []
theorem dmg_past (lim : Nat) : ∀ (xs : List UInt8) (q : Nat) (l : List UInt8), lim ≤ q → dmg lim xs q l = l ∧ hit lim xs q = false
  | [], _, _, _ => ⟨rfl, rfl⟩
  | x :: xs, q, l, h => by
    have := dmg_past lim xs (q + 1) l (by omega)
    simp only [dmg, hit]
    rw [if_neg (by omega), decide_eq_false (by omega)]
    simpa using this
theorem xr_nil : ∀ xs : List UInt8, xr [] xs = []
  | [] => rfl
  | _ :: _ => rfl
theorem xr_len : ∀ (v xs : List UInt8), (xr v xs).length = v.length
  | [], xs => by rw [xr_nil]
  | v :: vs, [] => rfl
  | v :: vs, x :: xs => by simp only [xr, List.length_cons]; rw [xr_len vs xs]
theorem dmg_at : ∀ (xs v P Q : List UInt8), dmg (P.length + v.length) xs P.length (P ++ v ++ Q) = P ++ xr v xs ++ Q ∧ hit (P.length + v.length) xs P.length = !decide (xr v xs = v)
  | [], v, P, Q => by cases v <;> simp [dmg, hit, xr]
  | x :: xs, [], P, Q => by
    have := dmg_past (P.length + ([] : List UInt8).length) (x :: xs) P.length (P ++ [] ++ Q) (by simp)
    rw [this.1, this.2, xr_nil]; simp
  | x :: xs, a :: v, P, Q => by
    have ih := dmg_at xs v (P ++ [a ^^^ x]) Q
    have e1 : (P ++ [a ^^^ x]).length + v.length = P.length + (a :: v).length := by simp; omega
    have e2 : (P ++ [a ^^^ x]).length = P.length + 1 := by simp
    rw [e1, e2] at ih
    simp only [dmg, hit, xr]
    rw [if_pos (by simp), decide_eq_true (by simp)]
    have e3 : (P ++ (a :: v) ++ Q).set P.length ((P ++ (a :: v) ++ Q).getD P.length 0 ^^^ x) = P ++ [a ^^^ x] ++ v ++ Q := by
      have : (P ++ (a :: v) ++ Q).getD P.length 0 = a := by simp [List.getD]
      rw [this]; simp
    rw [e3, ih.1, ih.2]
    refine ⟨by simp, ?_⟩
    rw [Bool.eq_iff_iff]
    simp only [Bool.true_and, Bool.or_eq_true, bne_iff_ne, Bool.not_eq_true', decide_eq_false_iff_not, List.cons.injEq, ne_eq]
    have hx : (a ^^^ x = a) ↔ x = 0 := by
      constructor
      · intro h
        have : a ^^^ (a ^^^ x) = a ^^^ a := by rw [h]
        rwa [← UInt8.xor_assoc, UInt8.xor_self, UInt8.zero_xor] at this
      · rintro rfl; simp
    rw [hx]
    by_cases h0 : x = 0 <;> simp [h0]
/-- What is changed is a short part. -/
theorem xr_part : ∀ (v xs : List UInt8), ∃ v1 v2 t, v = v1 ++ t ∧ xr v xs = v2 ++ t ∧ v1.length = v2.length ∧ v1.length ≤ xs.length
  | v, [] => ⟨[], [], v, rfl, by cases v <;> rfl, rfl, by simp⟩
  | [], x :: xs => ⟨[], [], [], rfl, rfl, rfl, by simp⟩
  | a :: v, x :: xs => by
    obtain ⟨v1, v2, t, h1, h2, h3, h4⟩ := xr_part v xs
    exact ⟨a :: v1, (a ^^^ x) :: v2, t, by rw [h1]; rfl, by simp only [xr]; rw [h2]; rfl, by simp [h3], by simp; omega⟩

/-! ### Records -/
theorem recs_frms2 (rs : List ByteArray) (l : List UInt8) (h : ∀ s ∈ rs, s.size ≤ 262144) : recs (frms (rs.map ky) ++ l) = rs ++ recs l ∧ extent (frms (rs.map ky) ++ l) = (frms (rs.map ky)).length + extent l := by
  have h' : ∀ r ∈ rs.map ky, r.length ≤ 262144 := by
    intro r hr
    obtain ⟨s, h1, rfl⟩ := List.mem_map.1 hr
    rw [ky_len]; exact h s h1
  have hle : (rs.map ky).length ≤ (frms (rs.map ky)).length := by
    have := scanL_le ((rs.map ky).length + 1) (frms (rs.map ky))
    have h2 := scanL_app (rs.map ky) 1 [] h'
    rw [List.append_nil, Nat.add_comm 1] at h2
    rw [h2] at this
    simp only [List.length_append] at this
    omega
  have h3 := scanL_fuel ((frms (rs.map ky) ++ l).length + 1) ((l.length + 1) + ((frms (rs.map ky)).length)) (frms (rs.map ky) ++ l) (by omega) (by rw [List.length_append]; omega)
  have h4 := scanL_app (rs.map ky) (l.length + 1 + ((frms (rs.map ky)).length - (rs.map ky).length)) l h'
  have h5 : scanL (l.length + 1 + ((frms (rs.map ky)).length - (rs.map ky).length)) l = scanL (l.length + 1) l := scanL_fuel _ _ _ (by omega) (by omega)
  rw [show l.length + 1 + ((frms (rs.map ky)).length - (rs.map ky).length) + (rs.map ky).length = l.length + 1 + (frms (rs.map ky)).length by omega, ← h3, h5] at h4
  refine ⟨?_, ?_⟩
  · unfold recs
    rw [h4]
    simp only [List.map_append]
    rw [bs_ky_map]
  · unfold extent
    rw [h4]
theorem recs_none {l : List UInt8} (h : frame1 l = none) : recs l = [] ∧ extent l = 0 := by
  unfold recs extent
  rw [scanL, h]
  exact ⟨rfl, rfl⟩
theorem frame1_nil : frame1 [] = none := by
  cases h : frame1 [] with
  | none => rfl
  | some p =>
    have := frame1_len (show frame1 [] = some (p.1, p.2) from h)
    simp at this; omega
theorem frms_split (p0 : List ByteArray) (w : Nat) (hw : w < p0.length) : frms (p0.map ky) = frms ((p0.take w).map ky) ++ (frm (ky p0[w]) ++ frms ((p0.drop (w + 1)).map ky)) := by
  have h := List.take_append_drop w p0
  rw [List.drop_eq_getElem_cons hw] at h
  have h2 := congrArg (fun l : List ByteArray => frms (l.map ky)) h.symm
  refine h2.trans ?_
  simp only [List.map_append, List.map_cons]
  rw [frms_app]; rfl
theorem frms_next (p0 : List ByteArray) (i : Nat) (h : i < p0.length) : frms ((p0.take i).map ky) ++ frm (ky p0[i]) = frms ((p0.take (i + 1)).map ky) := by
  rw [List.take_succ_eq_append_getElem h, List.map_append, frms_app]
  simp [frms]
/-- The whole log's bytes behind the damage. -/
theorem damaged (p0 : List ByteArray) (w off : Nat) (xs : List UInt8) (hw : w < p0.length) (hs : ∀ s ∈ p0, s.size ≤ 100) (ho : off < p0[w].size) (hx : xs.length = 4) :
    let F := (frms ((p0.take w).map ky)).length
    let l' := dmg (F + 1 + p0[w].size) xs (F + 1 + off) (frms (p0.map ky))
    l'.length = (frms (p0.map ky)).length ∧ (bif hit (F + 1 + p0[w].size) xs (F + 1 + off) then recs l' = p0.take w ∧ extent l' = F else l' = frms (p0.map ky)) := by
  intro F l'
  have hF : F = (frms ((p0.take w).map ky)).length := rfl
  have hl0 : l' = dmg (F + 1 + p0[w].size) xs (F + 1 + off) (frms (p0.map ky)) := rfl
  clear_value l' F
  have hz := hs p0[w] (List.getElem_mem hw)
  have hk := ky_len p0[w]
  have he : (enc (ky p0[w]).length).length = 1 := by
    have := enc_len 0 (ky p0[w]).length (by rw [hk]; omega)
    omega
  generalize hA : frms ((p0.take w).map ky) = A at *
  generalize hB : frms ((p0.drop (w + 1)).map ky) = B at *
  have hall : frms (p0.map ky) = A ++ (frm (ky p0[w]) ++ B) := by rw [frms_split p0 w hw, hA, hB]
  generalize hr : ky p0[w] = r at *
  have hv : r = r.take off ++ r.drop off := (List.take_append_drop off r).symm
  have hrl : r.length = p0[w].size := hk
  have e1 : frms (p0.map ky) = (A ++ enc r.length ++ r.take off) ++ r.drop off ++ (four (crc (enc r.length ++ r)) ++ B) := by
    rw [hall]
    unfold frm
    simp only [List.append_assoc]
    conv => lhs; rw [show r ++ (four (crc (enc r.length ++ r)) ++ B) = r.take off ++ (r.drop off ++ (four (crc (enc r.length ++ r)) ++ B)) by rw [← List.append_assoc (r.take off), List.take_append_drop]]
  have hP : (A ++ enc r.length ++ r.take off).length = F + 1 + off := by
    simp only [List.length_append, List.length_take]
    omega
  have hL : (A ++ enc r.length ++ r.take off).length + (r.drop off).length = F + 1 + p0[w].size := by
    rw [hP, List.length_drop]; omega
  have h := dmg_at xs (r.drop off) (A ++ enc r.length ++ r.take off) (four (crc (enc r.length ++ r)) ++ B)
  rw [hL, hP, ← e1] at h
  obtain ⟨h1, h2⟩ := h
  have hl' : l' = A ++ (enc r.length ++ (r.take off ++ xr (r.drop off) xs) ++ four (crc (enc r.length ++ r)) ++ B) := by
    rw [hl0, h1]; simp only [List.append_assoc]
  have hrl' : (r.take off ++ xr (r.drop off) xs).length = r.length := by
    rw [List.length_append, xr_len, ← List.length_append, List.take_append_drop]
  refine ⟨?_, ?_⟩
  · rw [hl0, h1, e1]
    simp only [List.length_append, xr_len]
  · rw [h2]
    by_cases hd : xr (r.drop off) xs = r.drop off
    · rw [decide_eq_true hd]
      show l' = _
      rw [hl0, h1, hd, ← e1]
    · rw [decide_eq_false hd]
      show recs l' = p0.take w ∧ extent l' = F
      have hc : crc (enc r.length ++ r) ≠ crc (enc r.length ++ (r.take off ++ xr (r.drop off) xs)) := by
        intro hh
        obtain ⟨v1, v2, t, g1, g2, g3, g4⟩ := xr_part (r.drop off) xs
        have k1 : enc r.length ++ r = (enc r.length ++ r.take off) ++ v1 ++ t := by
          rw [List.append_assoc (enc r.length ++ r.take off), ← g1, List.append_assoc, List.take_append_drop]
        have k2 : enc r.length ++ (r.take off ++ xr (r.drop off) xs) = (enc r.length ++ r.take off) ++ v2 ++ t := by
          rw [g2]; simp only [List.append_assoc]
        rw [k1, k2] at hh
        exact hd (by rw [g2, g1, crc_tells _ v1 v2 t g3 (by omega) hh])
      have hf := frame1_changed r (r.take off ++ xr (r.drop off) xs) B hrl' (by omega) hc
      have hq := recs_frms2 (p0.take w) (enc r.length ++ (r.take off ++ xr (r.drop off) xs) ++ four (crc (enc r.length ++ r)) ++ B) (fun s h => by have := hs s (List.mem_of_mem_take h); omega)
      rw [hA, ← hl', (recs_none hf).1, (recs_none hf).2] at hq
      rw [hF]; simpa using hq

/-! ### The program's -/
theorem damage_l0 (n : Nat) (p0 : List ByteArray) (p2 : Int) (p3 : G23) (w : Nat) (hw : w < p0.length) (hn : 7000 ≤ n) (hp : p0.length ≤ 8) (hs : ∀ s ∈ p0, s.size ≤ 100) : ∀ (k i m : Nat) (st : Int), i + k = p0.length → k < m → (w < i → st = (((frms ((p0.take w).map ky)).length + 1 : Nat) : Int)) →
    lookoutlaw23_WalDamage_l0 n p0 p2 p3 m (w : Int) (ints (frms ((p0.take i).map ky))) st (p0.length : Int) (i : Int) = lookoutlaw23_WalDamage_s2 n p0 p2 p3 (w : Int) (ints (frms (p0.map ky))) (((frms ((p0.take w).map ky)).length + 1 : Nat) : Int)
  | _, i, 0, st, h, hk, hst => by omega
  | 0, i, m + 1, st, h, hk, hst => by
    simp only [lookoutlaw23_WalDamage_l0]
    rw [decide_eq_false (show ¬ (i : Int) < (p0.length : Int) by omega), List.take_of_length_le (by omega), hst (by omega)]
    rfl
  | k + 1, i, m + 1, st, h, hk, hst => by
    have h1 : i < p0.length := by omega
    have hz := hs p0[i] (List.getElem_mem h1)
    have hb : ∀ j, (frms ((p0.take j).map ky)).length ≤ 856 := fun j => by
      have h2 := frms_small (p0.take j) (fun s h => hs s (List.mem_of_mem_take h))
      rw [List.length_take] at h2; omega
    have go : ∀ st' : Int, (w < i + 1 → st' = (((frms ((p0.take w).map ky)).length + 1 : Nat) : Int)) →
        lookoutlaw23_WalDamage_s1 n (fun a0 a1 a2 a3 a4 => lookoutlaw23_WalDamage_l0 n p0 p2 p3 m a0 a1 a2 a3 a4) p0 p2 p3 (w : Int) (p0.length : Int) (ints (frms ((p0.take i).map ky))) st' (p0[i]) (i : Int) =
        lookoutlaw23_WalDamage_s2 n p0 p2 p3 (w : Int) (ints (frms (p0.map ky))) (((frms ((p0.take w).map ky)).length + 1 : Nat) : Int) := by
      intro st' hst'
      simp only [lookoutlaw23_WalDamage_s1]
      rw [Frame_eq n _ (by omega) (by omega), wr1 i (by omega)]
      simp only [Option.bind_some]
      have e : ints (frms ((p0.take i).map ky)) ++ bytesL (bs (frm (ky p0[i]))) = ints (frms ((p0.take (i + 1)).map ky)) := by
        rw [bytesL_ints, ky_bs, ← ints_app, frms_next p0 i h1]
      have hq := hb (i + 1)
      have e2 := congrArg List.length e
      rw [List.length_append, bytesL_len, ints_len] at e2
      rw [e, decide_eq_true (show ((ints (frms ((p0.take i).map ky))).length + (bs (frm (ky p0[i]))).size) * 1 ≤ 140737488355328 by rw [ints_len] at e2 ⊢; omega),
        decide_eq_true (show (ints (frms ((p0.take i).map ky))).length + (bs (frm (ky p0[i]))).size ≤ 9223372036854775807 by rw [ints_len] at e2 ⊢; omega)]
      simp only [cond_true, Bool.and_self]
      exact damage_l0 n p0 p2 p3 w hw hn hp hs k (i + 1) m st' (by omega) (by omega) hst'
    simp only [lookoutlaw23_WalDamage_l0]
    rw [dec_in i p0.length h1, decide_eq_true (show (i : Int) < (p0.length : Int) by omega), toNat_c, getD_s p0 i h1, ints_len, wr1 _ (by have := hb i; omega)]
    simp only [cond_true]
    by_cases e : i = w
    · rw [show ((i : Int) == (w : Int)) = true from by rw [beq_iff_eq, e]]
      exact go _ (fun _ => by rw [e])
    · rw [show ((i : Int) == (w : Int)) = false from by rw [beq_eq_false_iff_ne]; omega]
      exact go _ (fun h => hst (by omega))
theorem damage_l3 (n : Nat) (p0 : List ByteArray) (p2 : Int) (p3 : G23) (w off S : Nat) (xs : List UInt8) (hw : w < p0.length) (hx : xs.length = 4) (h3 : ∀ j, j < 4 → ([p3.E0, p3.E1, p3.E2, p3.E3] : List Int).getD j 0 = ((xs.getD j 0).toNat : Int))
    (h2 : Int.tmod (IntKind.wrap .i64 p2) ((p0[w].size : Nat) : Int) = (off : Int)) (ho : off < p0[w].size) (hz : p0[w].size ≤ 100) (hS : S ≤ 1000) : ∀ (k j m : Nat) (l : List UInt8) (c : Bool), j + k = 4 → k < m → S + p0[w].size ≤ l.length → l.length ≤ 1000 →
    lookoutlaw23_WalDamage_l3 n p0 p2 (w : Int) m (ints l) (S : Int) c p3 (j : Int) = lookoutlaw23_WalDamage_s5 n p0 (w : Int) (ints (dmg (S + p0[w].size) (xs.drop j) (S + off + j) l)) (S : Int) (c || hit (S + p0[w].size) (xs.drop j) (S + off + j))
  | _, j, 0, l, c, h, hk, hl, hl2 => by omega
  | 0, j, m + 1, l, c, h, hk, hl, hl2 => by
    simp only [lookoutlaw23_WalDamage_l3]
    rw [decide_eq_false (show ¬ (j : Int) < 4 by omega), List.drop_eq_nil_of_le (by omega)]
    simp only [cond_false, dmg, hit, Bool.or_false]
  | k + 1, j, m + 1, l, c, h, hk, hl, hl2 => by
    have hj : j < 4 := by omega
    have hj2 : j < xs.length := by omega
    rw [List.drop_eq_getElem_cons hj2]
    have hxj : xs.getD j 0 = xs[j] := by simp [List.getD, hj2]
    simp only [lookoutlaw23_WalDamage_l3, lookoutlaw23_WalDamage_s4]
    rw [decide_eq_true (show (j : Int) < 4 by omega), decide_eq_true (show (0 : Int) ≤ (j : Int) by omega), decide_eq_true (show (j : Int) < ((4 : Nat) : Int) by omega), toNat_c, toNat_c, show Nat.ble (j * 1 + 1) 4 = true from Nat.ble_eq_true_of_le (by omega), dec_in w p0.length hw, getD_s p0 w hw, h2,
      show (((p0[w].size : Nat) : Int) != 0) = true from by rw [bne_iff_ne]; omega, h3 j hj, hxj]
    have w1 : IntKind.wrap .i64 ((off : Int) + (j : Int)) = ((off + j : Nat) : Int) := by rw [wr _ (by omega) (by omega)]; omega
    have w2 : IntKind.wrap .i64 ((S : Int) + ((off + j : Nat) : Int)) = ((S + off + j : Nat) : Int) := by rw [wr _ (by omega) (by omega)]; omega
    rw [w1, w2, toNat_c, wr1 j (by omega), ints_len]
    simp only [cond_true, Bool.and_self, dmg, hit]
    by_cases hin : off + j < p0[w].size
    · rw [decide_eq_true (show ((off + j : Nat) : Int) < ((p0[w].size : Nat) : Int) by omega), decide_eq_true (show ((S + off + j : Nat) : Int) < (l.length : Int) by omega), decide_eq_true (show (0 : Int) ≤ ((S + off + j : Nat) : Int) by omega),
        show Nat.blt (S + off + j) l.length = true from by rw [Nat.blt_eq]; omega, ints_getD, xor8, ints_set, if_pos (show S + off + j < S + p0[w].size by omega), decide_eq_true (show S + off + j < S + p0[w].size by omega)]
      simp only [cond_true, Bool.and_self, Bool.true_and]
      have hx0 : (((xs[j].toNat : Nat) : Int) != 0) = (xs[j] != 0) := by
        rw [Bool.eq_iff_iff, bne_iff_ne, bne_iff_ne]
        exact ⟨fun h h' => h (by rw [h']; rfl), fun h h' => h (UInt8.toNat_inj.1 (by rw [UInt8.toNat_zero]; omega))⟩
      have ih := fun c' => damage_l3 n p0 p2 p3 w off S xs hw hx h3 h2 ho hz hS k (j + 1) m (l.set (S + off + j) (l.getD (S + off + j) 0 ^^^ xs[j])) c' (by omega) (by omega) (by rw [List.length_set]; omega) (by rw [List.length_set]; omega)
      cases c with
      | true => simp only [cond_true]; rw [ih]; simp only [Bool.true_or]; rfl
      | false => simp only [cond_false]; rw [ih, hx0]; simp only [Bool.false_or]; rfl
    · rw [decide_eq_false (show ¬ ((off + j : Nat) : Int) < ((p0[w].size : Nat) : Int) by omega), if_neg (show ¬ S + off + j < S + p0[w].size by omega), decide_eq_false (show ¬ S + off + j < S + p0[w].size by omega)]
      simp only [cond_false, Bool.false_and, Bool.false_or]
      exact damage_l3 n p0 p2 p3 w off S xs hw hx h3 h2 ho hz hS k (j + 1) m l c (by omega) (by omega) hl hl2
theorem walDamage_law (p0 : List ByteArray) (p1 p2 : Int) (p3 : G23) (h1 : 0 ≤ p1 ∧ p1 < 256) (h2 : 0 ≤ p2 ∧ p2 < 256) (h3 : (0 ≤ p3.E0 ∧ p3.E0 < 256) ∧ (0 ≤ p3.E1 ∧ p3.E1 < 256) ∧ (0 ≤ p3.E2 ∧ p3.E2 < 256) ∧ (0 ≤ p3.E3 ∧ p3.E3 < 256)) : ∃ n, lookoutlaw23_WalDamage n p0 p1 p2 p3 = some true := by
  refine ⟨10000, ?_⟩
  show lookoutlaw23_WalDamage (9999 + 1) p0 p1 p2 p3 = _
  simp only [lookoutlaw23_WalDamage]
  rw [fine_one 9999 p0 _ _ (by omega)]
  simp only [Option.bind_some]
  cases hsm : small p0 with
  | false => rw [awake23]; rfl
  | true =>
    simp only [small, Bool.and_eq_true, decide_eq_true_eq] at hsm
    obtain ⟨hlen, hs⟩ := hsm
    simp only [Bool.not_true, cond_false]
    by_cases h0 : p0.length = 0
    · rw [show ((p0.length : Int) == 0) = true from by rw [beq_iff_eq]; omega, awake23]; rfl
    rw [show ((p0.length : Int) == 0) = false from by rw [beq_eq_false_iff_ne]; omega, show ((p0.length : Int) != 0) = true from by rw [bne_iff_ne]; omega]
    simp only [cond_false, cond_true]
    rw [wr p1 (by omega) (by omega)]
    obtain ⟨a, rfl⟩ : ∃ a : Nat, p1 = a := ⟨p1.toNat, by omega⟩
    have hw0 : Int.tmod (a : Int) (p0.length : Int) = ((a % p0.length : Nat) : Int) := by
      rw [Int.tmod_eq_emod_of_nonneg (by omega)]; rfl
    rw [hw0]
    have hw : a % p0.length < p0.length := Nat.mod_lt _ (by omega)
    generalize a % p0.length = w at *
    have hz := hs p0[w] (List.getElem_mem hw)
    rw [dec_in w p0.length hw, toNat_c, getD_s p0 w hw]
    simp only [cond_true]
    by_cases hr0 : p0[w].size = 0
    · rw [show ((p0[w].size : Int) == 0) = true from by rw [beq_iff_eq]; omega, awake23]; rfl
    rw [show ((p0[w].size : Int) == 0) = false from by rw [beq_eq_false_iff_ne]; omega, decide_eq_false (show ¬ (p0[w].size : Int) > 100 by omega)]
    simp only [cond_false]
    have hl0 := damage_l0 9999 p0 p2 p3 w hw (by omega) hlen hs p0.length 0 9999 0 (by omega) (by omega) (by omega)
    refine Eq.trans hl0 ?_
    simp only [lookoutlaw23_WalDamage_s2]
    obtain ⟨b, rfl⟩ : ∃ b : Nat, p2 = b := ⟨p2.toNat, by omega⟩
    have ho0 : Int.tmod (IntKind.wrap .i64 (b : Int)) ((p0[w].size : Nat) : Int) = ((b % p0[w].size : Nat) : Int) := by
      rw [wr _ (by omega) (by omega), Int.tmod_eq_emod_of_nonneg (by omega)]; rfl
    have ho : b % p0[w].size < p0[w].size := Nat.mod_lt _ (by omega)
    generalize b % p0[w].size = off at *
    have hX : ∀ z : Int, 0 ≤ z ∧ z < 256 → z = ((UInt8.ofNat z.toNat).toNat : Int) := fun z hz => by
      rw [UInt8.toNat_ofNat']; omega
    have hf := frms_small p0 hs
    have hsp := congrArg List.length (frms_split p0 w hw)
    rw [List.length_append, List.length_append, frm_len, ky_len] at hsp
    have he := enc_len 0 p0[w].size (by omega)
    have hl3 := damage_l3 9999 p0 (b : Int) p3 w off ((frms ((p0.take w).map ky)).length + 1) [UInt8.ofNat p3.E0.toNat, UInt8.ofNat p3.E1.toNat, UInt8.ofNat p3.E2.toNat, UInt8.ofNat p3.E3.toNat] hw rfl
      (fun j hj => by
        obtain ⟨g0, g1, g2, g3⟩ := h3
        rcases (show j = 0 ∨ j = 1 ∨ j = 2 ∨ j = 3 by omega) with rfl | rfl | rfl | rfl
        · exact hX _ g0
        · exact hX _ g1
        · exact hX _ g2
        · exact hX _ g3) ho0 ho hz (by omega) 4 0 9999 (frms (p0.map ky)) false (by omega) (by omega) (by omega) (by omega)
    refine Eq.trans hl3 ?_
    simp only [List.drop_zero, Bool.false_or, Nat.add_zero]
    obtain ⟨l', hh, k1, k2, d1, d2⟩ : ∃ l' hh, dmg ((frms ((p0.take w).map ky)).length + 1 + p0[w].size) [UInt8.ofNat p3.E0.toNat, UInt8.ofNat p3.E1.toNat, UInt8.ofNat p3.E2.toNat, UInt8.ofNat p3.E3.toNat] ((frms ((p0.take w).map ky)).length + 1 + off) (frms (p0.map ky)) = l' ∧
        hit ((frms ((p0.take w).map ky)).length + 1 + p0[w].size) [UInt8.ofNat p3.E0.toNat, UInt8.ofNat p3.E1.toNat, UInt8.ofNat p3.E2.toNat, UInt8.ofNat p3.E3.toNat] ((frms ((p0.take w).map ky)).length + 1 + off) = hh ∧ l'.length = (frms (p0.map ky)).length ∧
        (bif hh then recs l' = p0.take w ∧ extent l' = (frms ((p0.take w).map ky)).length else l' = frms (p0.map ky)) := by
      have hd := damaged p0 w off [UInt8.ofNat p3.E0.toNat, UInt8.ofNat p3.E1.toNat, UInt8.ofNat p3.E2.toNat, UInt8.ofNat p3.E3.toNat] hw hs ho rfl
      exact ⟨_, _, rfl, rfl, hd.1, hd.2⟩
    rw [k1, k2]
    simp only [lookoutlaw23_WalDamage_s5]
    rw [bytesOf_ints, Scan_eq 9999 _ (by rw [bs_size]; omega) (by rw [bs_size]; omega), ky_bs, ints_len]
    simp only [Option.bind_some]
    cases hh with
    | false =>
      simp only [cond_false] at d2
      subst d2
      have hq := recs_frms2 p0 [] (fun s h => by have := hs s h; omega)
      rw [List.append_nil, (recs_none frame1_nil).1, (recs_none frame1_nil).2, List.append_nil, Nat.add_zero] at hq
      rw [hq.1, hq.2]
      simp only [Bool.not_false, cond_true]
      rw [equal_eq 9999 p0 p0 (by omega) (by omega), decide_eq_true rfl, awake23]
      simp only [Option.bind_some, cond_true, beq_self_eq_true]
    | true =>
      simp only [cond_true] at d2
      rw [d2.1, d2.2]
      simp only [Bool.not_true, cond_false]
      rw [dec3z w p0.length (by omega), toNat_c, wrp _ (by omega)]
      simp only [cond_true]
      rw [equal_eq 9999 _ _ (by rw [List.length_take]; omega) (by rw [List.length_take]; omega), decide_eq_true rfl, awake23]
      simp only [Option.bind_some, cond_true, beq_self_eq_true]
end Go.Proofs.Ytkkinfbipndfdaa
