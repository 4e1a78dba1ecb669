/- Plain laws of blocks, 1: labels, zones, chunks: the check, the program's and the reference's. -/
import Derived.Test.YtomalcfghdaghaaGreatDoorMn8
import Derived.Test.YtomalcfghdaghaaGreatDoorWf
set_option linter.unusedVariables false
set_option linter.unusedSimpArgs false
namespace Go.Proofs.YtomalcfghdaghaaGreatDoor
open Go Go.AM Go.Lib
/-! ### Names -/
def okC (c : Int) : Bool := (decide (c ≥ 97) && decide (c ≤ 122)) || (decide (c ≥ 65) && decide (c ≤ 90)) || (decide (c ≥ 48) && decide (c ≤ 57)) || c == 95
def allC (s : ByteArray) (i : Nat) : Nat → Bool
  | 0 => true
  | k + 1 => okC (bt s i) && allC s (i + 1) k
def lname (s : ByteArray) : Bool := decide (0 < s.size) && decide (s.size ≤ 60) && !(decide (48 ≤ bt s 0) && decide (bt s 0 ≤ 57)) && allC s 0 s.size
theorem nameByte_eq (n : Nat) (c : Int) (hn : 1 ≤ n) : labels_isNameByte n c = some (okC c) := by
  obtain ⟨m, rfl⟩ : ∃ m, n = m + 1 := ⟨n - 1, by omega⟩
  unfold labels_isNameByte okC
  by_cases a1 : c ≥ 97 <;> by_cases a2 : c ≤ 122 <;> by_cases a3 : c ≥ 65 <;> by_cases a4 : c ≤ 90 <;> by_cases a5 : c ≥ 48 <;> by_cases a6 : c ≤ 57 <;>
    simp [a1, a2, a3, a4, a5, a6]
theorem letter_eq (n : Nat) (c : Int) (hn : 1 ≤ n) : lookoutref05_letter n c = some (okC c) := by
  obtain ⟨m, rfl⟩ : ∃ m, n = m + 1 := ⟨n - 1, by omega⟩
  unfold lookoutref05_letter okC
  by_cases a1 : c ≥ 97 <;> by_cases a2 : c ≤ 122 <;> by_cases a3 : c ≥ 65 <;> by_cases a4 : c ≤ 90 <;> by_cases a5 : c ≥ 48 <;> by_cases a6 : c ≤ 57 <;>
    simp [a1, a2, a3, a4, a5, a6]
theorem lisName_l0 (n : Nat) (s : ByteArray) (hn : 1 ≤ n) (hs : s.size ≤ 1000) : ∀ (k i m : Nat), i + k = s.size → k < m → labels_isName_l0 n s m (i : Int) = some (allC s i k)
  | k, i, 0, _, h => by omega
  | 0, i, m + 1, h, _ => by
    have h1 : ¬ ((i : Int) < (s.size : Int)) := by omega
    unfold labels_isName_l0
    rw [bzn h1]; rfl
  | k + 1, i, m + 1, h, h1 => by
    have hx : i < s.size := by omega
    have h2 : ((i : Int) < (s.size : Int)) := by omega
    unfold labels_isName_l0
    rw [bz h2, dec_in i _ hx, cond_true, toNat_c, nameByte_eq n _ hn, Option.bind_some, allC]
    cases okC (bt s i) with
    | false => rfl
    | true =>
      rw [Bool.not_true, cond_false, wr1 i (by omega), lisName_l0 n s hn hs k (i + 1) m (by omega) (by omega)]; rfl
theorem lisName_eq (n : Nat) (s : ByteArray) (hn : 100 ≤ n) : labels_isName n s = some (lname s) := by
  obtain ⟨m, rfl⟩ : ∃ m, n = m + 1 := ⟨n - 1, by omega⟩
  unfold labels_isName lname
  simp only
  by_cases h1 : s.size < 1
  · rw [bz (show (s.size : Int) < 1 by omega), decide_eq_false (show ¬ 0 < s.size by omega)]; rfl
  · rw [bzn (show ¬ (s.size : Int) < 1 by omega), decide_eq_true (show 0 < s.size by omega)]
    by_cases h2 : s.size ≤ 60
    · have hl := lisName_l0 m s (by omega) (by omega) s.size 0 m (by omega) (by omega)
      rw [Int.natCast_zero] at hl
      rw [bzn (show ¬ (s.size : Int) > 60 by omega), decide_eq_true h2, btt (dz 0 s.size (by omega) (by omega)), btt (dz 0 s.size (by omega) (by omega)), hl]
      cases decide (48 ≤ bt s 0) <;> cases decide (bt s 0 ≤ 57) <;> rfl
    · rw [bz (show (s.size : Int) > 60 by omega), decide_eq_false h2]; rfl
theorem rlname_l0 (n : Nat) (s : ByteArray) (hn : 1 ≤ n) (hs : s.size ≤ 1000) : ∀ (k i m : Nat), i + k = s.size → k < m → lookoutref05_Name_l0 n s m (i : Int) = bif allC s i k then lookoutref05_Name_s1 n s else some false
  | k, i, 0, _, h => by omega
  | 0, i, m + 1, h, _ => by
    have h1 : ¬ ((i : Int) < (s.size : Int)) := by omega
    unfold lookoutref05_Name_l0
    rw [bzn h1]; rfl
  | k + 1, i, m + 1, h, h1 => by
    have hx : i < s.size := by omega
    have h2 : ((i : Int) < (s.size : Int)) := by omega
    unfold lookoutref05_Name_l0
    rw [bz h2, dec_in i _ hx, cond_true, toNat_c, letter_eq n _ hn, Option.bind_some, allC]
    cases okC (bt s i) with
    | false => rfl
    | true =>
      rw [Bool.not_true, cond_false, wr1 i (by omega), rlname_l0 n s hn hs k (i + 1) m (by omega) (by omega)]; rfl
theorem rlname_eq (n : Nat) (s : ByteArray) (hn : s.size + 3 ≤ n) (hs : s.size ≤ 1000) : lookoutref05_Name n s = some (lname s) := by
  obtain ⟨m, rfl⟩ : ∃ m, n = m + 1 := ⟨n - 1, by omega⟩
  unfold lookoutref05_Name lname
  have hl := rlname_l0 m s (by omega) hs s.size 0 m (by omega) (by omega)
  rw [Int.natCast_zero] at hl
  refine hl.trans ?_
  cases allC s 0 s.size with
  | false => simp
  | true =>
    rw [cond_true, Bool.and_true]
    unfold lookoutref05_Name_s1
    by_cases h1 : s.size < 1
    · rw [bzn (show ¬ (s.size : Int) > 0 by omega), decide_eq_false (show ¬ 0 < s.size by omega)]; rfl
    · rw [bz (show (s.size : Int) > 0 by omega), decide_eq_true (show 0 < s.size by omega)]
      by_cases h2 : s.size ≤ 60
      · rw [bz (show (s.size : Int) ≤ 60 by omega), decide_eq_true h2, btt (dz 0 s.size (by omega) (by omega)), btt (dz 0 s.size (by omega) (by omega))]
        by_cases h3 : bt s 0 < 48
        · rw [bz h3, decide_eq_false (show ¬ 48 ≤ bt s 0 by omega)]; rfl
        · rw [bzn h3, decide_eq_true (show 48 ≤ bt s 0 by omega)]
          by_cases h4 : bt s 0 ≤ 57
          · rw [decide_eq_true h4, decide_eq_false (show ¬ bt s 0 > 57 by omega)]; rfl
          · rw [decide_eq_false h4, decide_eq_true (show bt s 0 > 57 by omega)]; rfl
      · rw [bzn (show ¬ (s.size : Int) ≤ 60 by omega), decide_eq_false h2]; rfl
/-! ### Labels -/
def smallL (l : List GLabel) : Prop := (∀ x ∈ l, x.Name.size ≤ 61 ∧ x.Value.size ≤ 201) ∧ l.length ≤ 17
def lbC (l : List GLabel) (i : Nat) : Int :=
  if lname (l.getD i dGLabel).Name = false then 5 else if (l.getD i dGLabel).Value = bE then 1 else if (l.getD i dGLabel).Value.size > 200 then 4 else
  if 0 < i ∧ sLe (l.getD i dGLabel).Name (l.getD (i - 1) dGLabel).Name = true then 9 else 0
def lckL (l : List GLabel) : Nat → Nat → Int
  | 0, _ => 0
  | k + 1, i => if lbC l i ≠ 0 then lbC l i else lckL l k (i + 1)
def lck (l : List GLabel) : Int := if l.length > 16 then 4 else lckL l l.length 0
theorem memL {l : List GLabel} {i : Nat} (h : i < l.length) : l.getD i dGLabel ∈ l := by
  rw [List.getD_eq_getElem?_getD, List.getElem?_eq_getElem h]; exact List.getElem_mem h
theorem lab_step (l : List GLabel) (i k : Nat) (x : Option Int) (hx : x = some (lckL l k (i + 1))) (hi : i < l.length) (hl : l.length ≤ 1000) :
    (bif (!(lname (l.getD i dGLabel).Name)) then some 5 else bif decide ((l.getD i dGLabel).Value = bE) then some 1 else bif decide (((l.getD i dGLabel).Value.size : Int) > 200) then some 4 else
      bif decide ((i : Int) > 0) then (bif (decide ((0 : Int) ≤ IntKind.wrap .i64 ((i : Int) - 1)) && decide (IntKind.wrap .i64 ((i : Int) - 1) < (l.length : Int))) then (bif sLe (l.getD i dGLabel).Name (l.getD (IntKind.wrap .i64 ((i : Int) - 1)).toNat dGLabel).Name then some 9 else x) else none) else x) = some (lckL l (k + 1) i) := by
  rw [hx, lckL]
  unfold lbC
  cases hn : lname (l.getD i dGLabel).Name with
  | false => rfl
  | true =>
    rw [Bool.not_true, cond_false, if_neg (show ¬ true = false by decide)]
    by_cases hv : (l.getD i dGLabel).Value = bE
    · rw [decide_eq_true hv, if_pos hv]; rfl
    · rw [decide_eq_false hv, if_neg hv, cond_false]
      by_cases hs : (l.getD i dGLabel).Value.size > 200
      · rw [bz (show ((l.getD i dGLabel).Value.size : Int) > 200 by omega), if_pos hs]; rfl
      · rw [bzn (show ¬ ((l.getD i dGLabel).Value.size : Int) > 200 by omega), if_neg hs]
        by_cases h0 : 0 < i
        · have hw1 : IntKind.wrap .i64 ((i : Int) - 1) = ((i - 1 : Nat) : Int) := by rw [wr _ (by omega) (by omega)]; omega
          rw [bz (show (i : Int) > 0 by omega), hw1, dec_in (i - 1) _ (by omega), cond_true, toNat_c]
          cases hle : sLe (l.getD i dGLabel).Name (l.getD (i - 1) dGLabel).Name with
          | true => rw [cond_true, show (if 0 < i ∧ true = true then (9 : Int) else 0) = 9 from if_pos ⟨h0, rfl⟩]; rfl
          | false => rw [cond_false, show (if 0 < i ∧ false = true then (9 : Int) else 0) = 0 from if_neg (fun h => by cases h.2)]; rfl
        · rw [bzn (show ¬ (i : Int) > 0 by omega), show (if 0 < i ∧ sLe (l.getD i dGLabel).Name (l.getD (i - 1) dGLabel).Name = true then (9 : Int) else 0) = 0 from if_neg (fun h => h0 h.1)]; rfl
theorem lcheck_l0 (n : Nat) (l : List GLabel) (hn : 1000 ≤ n) (hl : l.length ≤ 1000) : ∀ (k i m : Nat), i + k = l.length → k < m → labels_Check_l0 n l m (l.length : Int) (i : Int) = some (lckL l k i)
  | k, i, 0, _, h => by omega
  | 0, i, m + 1, h, _ => by
    have h1 : ¬ ((i : Int) < (l.length : Int)) := by omega
    unfold labels_Check_l0
    rw [bzn h1]; rfl
  | k + 1, i, m + 1, h, h1 => by
    have hx : i < l.length := by omega
    have h2 : ((i : Int) < (l.length : Int)) := by omega
    have ih := lcheck_l0 n l hn hl k (i + 1) m (by omega) (by omega)
    unfold labels_Check_l0
    rw [bz h2, dec_in i _ hx, cond_true, toNat_c, lisName_eq n _ (by omega), Option.bind_some, sEq_eq, wr1 i (by omega)]
    exact lab_step l i k _ ih hx hl
theorem lcheck_eq (n : Nat) (l : List GLabel) (hn : 1100 ≤ n) : labels_Check n l = some (lck l) := by
  obtain ⟨m, rfl⟩ : ∃ m, n = m + 1 := ⟨n - 1, by omega⟩
  unfold labels_Check lck
  simp only
  by_cases h : l.length > 16
  · rw [bz (show (l.length : Int) > 16 by omega), if_pos h]
  · rw [bzn (show ¬ (l.length : Int) > 16 by omega), if_neg h]
    exact lcheck_l0 m l (by omega) (by omega) l.length 0 m (by omega) (by omega)
theorem rlcheck_l0 (n : Nat) (l : List GLabel) (hn : 1000 ≤ n) (hl : l.length ≤ 1000) (hs : ∀ x ∈ l, x.Name.size ≤ 61) : ∀ (k i m : Nat), i + k = l.length → k < m → lookoutref05_Check_l0 n l m (i : Int) = some (lckL l k i)
  | k, i, 0, _, h => by omega
  | 0, i, m + 1, h, _ => by
    have h1 : ¬ ((i : Int) < (l.length : Int)) := by omega
    unfold lookoutref05_Check_l0
    rw [bzn h1]; rfl
  | k + 1, i, m + 1, h, h1 => by
    have hx : i < l.length := by omega
    have h2 : ((i : Int) < (l.length : Int)) := by omega
    have ih := rlcheck_l0 n l hn hl hs k (i + 1) m (by omega) (by omega)
    have hsz := hs _ (memL hx)
    unfold lookoutref05_Check_l0
    rw [bz h2, dec_in i _ hx]
    simp only [cond_true, toNat_c]
    rw [rlname_eq n _ (by omega) (by omega), Option.bind_some, sEq_eq, wr1 i (by omega)]
    exact lab_step l i k _ ih hx hl
theorem rlcheck_eq (n : Nat) (l : List GLabel) (hn : 1100 ≤ n) (hs : ∀ x ∈ l, x.Name.size ≤ 61) : lookoutref05_Check n l = some (lck l) := by
  obtain ⟨m, rfl⟩ : ∃ m, n = m + 1 := ⟨n - 1, by omega⟩
  unfold lookoutref05_Check lck
  simp only
  by_cases h : l.length > 16
  · rw [bz (show (l.length : Int) > 16 by omega), if_pos h]
  · rw [bzn (show ¬ (l.length : Int) > 16 by omega), if_neg h]
    exact rlcheck_l0 m l (by omega) (by omega) hs l.length 0 m (by omega) (by omega)
/-! ### Zones -/
def zEmpty (z : GZone) : Bool := (z.Count == 0) && ((z.MinTime == 0) && ((z.MaxTime == 0) && ((z.MinValue == 0) && ((z.MaxValue == 0) && (((z.Bloom.E0 == 0) && ((z.Bloom.E1 == 0) && ((z.Bloom.E2 == 0) && ((z.Bloom.E3 == 0) && ((z.Bloom.E4 == 0) && ((z.Bloom.E5 == 0) && ((z.Bloom.E6 == 0) && ((z.Bloom.E7 == 0) && true)))))))) && true)))))
def zck (z : GZone) : Int :=
  if z.Count < 0 then 2 else if z.Count > 1152921504606846976 then 2 else if z.Count = 0 then (if zEmpty z = true then 0 else 10) else
  if z.MinTime < 1 then 2 else if z.MinTime > 1099511627776 then 2 else if z.MaxTime < 1 then 2 else if z.MaxTime > 1099511627776 then 2 else if z.MinTime > z.MaxTime then 9 else
  if z.MinValue < -1099511627776 then 2 else if z.MinValue > 1099511627776 then 2 else if z.MaxValue < -1099511627776 then 2 else if z.MaxValue > 1099511627776 then 2 else if z.MinValue > z.MaxValue then 9 else 0
theorem isTime_eq (n : Nat) (a : Int) (hn : 1 ≤ n) : zonemap_isTime n a = some (decide (1 ≤ a) && decide (a ≤ 1099511627776)) := by
  obtain ⟨m, rfl⟩ : ∃ m, n = m + 1 := ⟨n - 1, by omega⟩
  unfold zonemap_isTime
  simp only
  by_cases h : a ≥ 1
  · rw [bz h, decide_eq_true (show 1 ≤ a from h), Bool.true_and]
  · rw [bzn h, decide_eq_false (show ¬ 1 ≤ a from h)]; rfl
theorem isValue_eq (n : Nat) (a : Int) (hn : 1 ≤ n) : zonemap_isValue n a = some (decide (-1099511627776 ≤ a) && decide (a ≤ 1099511627776)) := by
  obtain ⟨m, rfl⟩ : ∃ m, n = m + 1 := ⟨n - 1, by omega⟩
  unfold zonemap_isValue
  simp only
  by_cases h : a ≥ -1099511627776
  · rw [bz h, decide_eq_true (show -1099511627776 ≤ a from h), Bool.true_and]
  · rw [bzn h, decide_eq_false (show ¬ -1099511627776 ≤ a from h)]; rfl
theorem within16_eq (n : Nat) (a lo hi : Int) (hn : 1 ≤ n) : lookoutref16_within n a lo hi = some (decide (lo ≤ a) && decide (a ≤ hi)) := by
  obtain ⟨m, rfl⟩ : ∃ m, n = m + 1 := ⟨n - 1, by omega⟩
  unfold lookoutref16_within
  simp only
  by_cases h : a ≥ lo
  · rw [bz h, decide_eq_true (show lo ≤ a from h), Bool.true_and]
  · rw [bzn h, decide_eq_false (show ¬ lo ≤ a from h)]; rfl
theorem beqD (a b : Int) : (a == b) = decide (a = b) := by
  rw [Bool.eq_iff_iff, beq_iff_eq, decide_eq_true_eq]
theorem zcount (z : GZone) (x : Option Int) (y : Int) (h : x = some y) : (bif (z.Count == 0) then (bif (!(zEmpty z)) then some (10 : Int) else some 0) else x) = some (if z.Count = 0 then (if zEmpty z = true then 0 else 10) else y) := by
  rw [beqD]
  by_cases hc : z.Count = 0
  · rw [decide_eq_true hc, if_pos hc, cond_true]
    cases zEmpty z <;> rfl
  · rw [decide_eq_false hc, if_neg hc, cond_false]; exact h
theorem zcheck_eq (n : Nat) (z : GZone) (hn : 2 ≤ n) : zonemap_Check n z = some (zck z) := by
  obtain ⟨m, rfl⟩ : ∃ m, n = m + 1 := ⟨n - 1, by omega⟩
  unfold zonemap_Check zck
  simp only [isTime_eq m _ (show 1 ≤ m by omega), isValue_eq m _ (show 1 ≤ m by omega), Option.bind_some]
  exact bsome (bsome (zcount z _ _ (wsome (wsome (bsome (wsome (wsome (bsome rfl))))))))
theorem rzcheck_eq (n : Nat) (z : GZone) (hn : 2 ≤ n) : lookoutref16_Check n z = some (zck z) := by
  obtain ⟨m, rfl⟩ : ∃ m, n = m + 1 := ⟨n - 1, by omega⟩
  unfold lookoutref16_Check zck
  simp only [within16_eq m _ _ _ (show 1 ≤ m by omega), Option.bind_some]
  exact wsome (zcount z _ _ (wsome (wsome (bsome (wsome (wsome (bsome rfl)))))))
/-! ### Chunks -/
def cck (w : Int) (c : GChunk) : Int :=
  if c.Signal < 1 then 8 else if c.Signal > 6 then 8 else if ¬ (decide (c.Signal = 6) = decide (w > 0)) then 8 else if lck c.Labels ≠ 0 then lck c.Labels else
  if (c.Signal = 3 ∨ c.Signal = 5) ∧ c.Labels.length > 0 then 1 else if zck c.Zone ≠ 0 then zck c.Zone else if c.Data.size > 262144 then 4 else 0
theorem nz_some {a : Int} {x : Option Int} {y : Int} (h : x = some y) : (bif (a != 0) then some a else x) = some (if a ≠ 0 then a else y) := by
  by_cases ha : a = 0
  · rw [ha, if_neg (show ¬ (0 : Int) ≠ 0 from fun h => h rfl)]; exact h
  · rw [btt (by rw [bne_iff_ne]; exact ha), if_pos ha]
theorem chunk_tail (c : GChunk) (bare : Bool) (hb : bare = decide (c.Signal = 3 ∨ c.Signal = 5)) (y : Option Int) (hy : y = some (if zck c.Zone ≠ 0 then zck c.Zone else if c.Data.size > 262144 then 4 else 0)) :
    (bif bare then (bif decide ((c.Labels.length : Int) > 0) then some (1 : Int) else y) else y) = some (if (c.Signal = 3 ∨ c.Signal = 5) ∧ c.Labels.length > 0 then 1 else if zck c.Zone ≠ 0 then zck c.Zone else if c.Data.size > 262144 then 4 else 0) := by
  subst hb
  by_cases h1 : c.Signal = 3 ∨ c.Signal = 5
  · rw [decide_eq_true h1, cond_true]
    by_cases h2 : c.Labels.length > 0
    · rw [bz (show (c.Labels.length : Int) > 0 by omega), if_pos ⟨h1, h2⟩]
    · rw [bzn (show ¬ (c.Labels.length : Int) > 0 by omega), if_neg (fun h => h2 h.2)]; exact hy
  · rw [decide_eq_false h1, cond_false, if_neg (fun h => h1 h.1)]; exact hy
theorem bare_dec (a : Int) : (bif (a == 3) then some true else some (a == 5)) = some (decide (a = 3 ∨ a = 5)) := by
  rw [beqD, beqD]
  by_cases h : a = 3
  · rw [decide_eq_true h, decide_eq_true (Or.inl h : a = 3 ∨ a = 5)]; rfl
  · rw [decide_eq_false h, cond_false]
    by_cases h2 : a = 5
    · rw [decide_eq_true h2, decide_eq_true (Or.inr h2 : a = 3 ∨ a = 5)]
    · rw [decide_eq_false h2, decide_eq_false (fun e => e.elim h h2)]
theorem unl_eq (n : Nat) (a : Int) (hn : 1 ≤ n) : block_unlabelled n a = some (decide (a = 3 ∨ a = 5)) := by
  obtain ⟨m, rfl⟩ : ∃ m, n = m + 1 := ⟨n - 1, by omega⟩
  exact bare_dec a
theorem bare_eq (n : Nat) (a : Int) (hn : 1 ≤ n) : lookoutref21_bare n a = some (decide (a = 3 ∨ a = 5)) := by
  obtain ⟨m, rfl⟩ : ∃ m, n = m + 1 := ⟨n - 1, by omega⟩
  exact bare_dec a
theorem data_dec (c : GChunk) : (bif (zck c.Zone != 0) then some (zck c.Zone) else (bif (decide ((c.Data.size : Int) > 262144)) then (some (4 : Int)) else (some 0))) = some (if zck c.Zone ≠ 0 then zck c.Zone else if c.Data.size > 262144 then 4 else 0) := by
  refine nz_some ?_
  by_cases h : c.Data.size > 262144
  · rw [bz (show (c.Data.size : Int) > 262144 by omega), if_pos h]
  · rw [bzn (show ¬ (c.Data.size : Int) > 262144 by omega), if_neg h]
theorem not_some {c : Prop} [Decidable c] {b : Bool} (hb : b = decide c) {a y : Int} {x : Option Int} (h : x = some y) : (bif b then some a else x) = some (if c then a else y) := by
  rw [hb]; exact bsome h
theorem cck_eq (n : Nat) (c : GChunk) (w : Int) (hw : 0 ≤ w) (hn : 1200 ≤ n) : block_checkChunk n c w = some (cck w c) := by
  obtain ⟨m, rfl⟩ : ∃ m, n = m + 1 := ⟨n - 1, by omega⟩
  unfold block_checkChunk cck
  simp only [lcheck_eq m _ (show 1100 ≤ m by omega), unl_eq m _ (show 1 ≤ m by omega), Option.bind_some]
  have hz : zonemap_Check m (⟨c.Zone.Count, c.Zone.MinTime, c.Zone.MaxTime, c.Zone.MinValue, c.Zone.MaxValue, (⟨c.Zone.Bloom.E0, c.Zone.Bloom.E1, c.Zone.Bloom.E2, c.Zone.Bloom.E3, c.Zone.Bloom.E4, c.Zone.Bloom.E5, c.Zone.Bloom.E6, c.Zone.Bloom.E7⟩ : G35)⟩ : GZone) = some (zck c.Zone) := zcheck_eq m c.Zone (by omega)
  rw [hz, Option.bind_some]
  refine bsome (bsome (not_some ?_ (nz_some (chunk_tail c _ rfl _ (data_dec c)))))
  rw [beqD, Bool.eq_iff_iff]
  have : (w != 0) = decide (w > 0) := by
    rw [Bool.eq_iff_iff, bne_iff_ne, decide_eq_true_eq]; omega
  rw [this, decide_eq_true_eq]
  cases decide (c.Signal = 6) <;> cases decide (w > 0) <;> decide
theorem rcck_eq (n : Nat) (c : GChunk) (w : Int) (hw : 0 ≤ w) (hs : ∀ x ∈ c.Labels, x.Name.size ≤ 61) (hn : 1200 ≤ n) : lookoutref21_checkChunk n w c = some (cck w c) := by
  obtain ⟨m, rfl⟩ : ∃ m, n = m + 1 := ⟨n - 1, by omega⟩
  unfold lookoutref21_checkChunk cck
  simp only [rlcheck_eq m _ (show 1100 ≤ m by omega) hs, bare_eq m _ (show 1 ≤ m by omega), Option.bind_some]
  have hz : lookoutref16_Check m (⟨c.Zone.Count, c.Zone.MinTime, c.Zone.MaxTime, c.Zone.MinValue, c.Zone.MaxValue, (⟨c.Zone.Bloom.E0, c.Zone.Bloom.E1, c.Zone.Bloom.E2, c.Zone.Bloom.E3, c.Zone.Bloom.E4, c.Zone.Bloom.E5, c.Zone.Bloom.E6, c.Zone.Bloom.E7⟩ : G35)⟩ : GZone) = some (zck c.Zone) := rzcheck_eq m c.Zone (by omega)
  rw [hz, Option.bind_some]
  refine bsome (bsome (not_some ?_ (nz_some (chunk_tail c _ rfl _ (data_dec c)))))
  rw [beqD, Bool.eq_iff_iff, decide_eq_true_eq]
  cases decide (c.Signal = 6) <;> cases decide (w > 0) <;> decide
end Go.Proofs.YtomalcfghdaghaaGreatDoor

/- Plain laws of blocks, 2: comparing, the block's check, the bounds of the statements. -/
set_option linter.unusedVariables false
set_option linter.unusedSimpArgs false
namespace Go.Proofs.YtomalcfghdaghaaGreatDoor
open Go Go.AM Go.Lib
def cmpI (a b : Int) : Int := if a < b then -1 else if a > b then 1 else 0
def csS (a b : ByteArray) : Int := if sLt a b = true then -1 else if sGt a b = true then 1 else 0
theorem bsomeB {b : Bool} {a y : Int} {x : Option Int} (h : x = some y) : (bif b then some a else x) = some (if b = true then a else y) := by
  cases b with
  | true => rfl
  | false => exact h
theorem cmpI_eq (n : Nat) (a b : Int) (hn : 2 ≤ n) : cmp_Compare n a b = some (cmpI a b) := by
  obtain ⟨m, rfl⟩ : ∃ m, n = m + 2 := ⟨n - 2, by omega⟩
  unfold cmp_Compare
  have h1 : ∀ x : Int, cmp_isNaN (m + 1) x = some false := fun x => by unfold cmp_isNaN; simp
  simp only [h1, Option.bind_some, cond_false]
  exact bsome (bsome rfl)
theorem cmpS_eq (n : Nat) (a b : ByteArray) (hn : 2 ≤ n) : cmp_Compare_156 n a b = some (csS a b) := by
  obtain ⟨m, rfl⟩ : ∃ m, n = m + 2 := ⟨n - 2, by omega⟩
  unfold cmp_Compare_156
  have h1 : ∀ x : ByteArray, cmp_isNaN_184 (m + 1) x = some false := fun x => by unfold cmp_isNaN_184; simp only [sNe_eq, decide_true, Bool.not_true]
  simp only [h1, Option.bind_some, cond_false]
  exact bsomeB (bsomeB rfl)
theorem text_eq (n : Nat) (a b : ByteArray) (hn : 1 ≤ n) : lookoutref05_Text n a b = some (csS a b) := by
  obtain ⟨m, rfl⟩ : ∃ m, n = m + 1 := ⟨n - 1, by omega⟩
  exact bsomeB (bsomeB rfl)
theorem or_eq (n : Nat) (a b : Int) (hn : 5 ≤ n) : cmp_Or n [a, b] = some (if a ≠ 0 then a else b) := by
  obtain ⟨m, rfl⟩ : ∃ m, n = m + 4 := ⟨n - 4, by omega⟩
  unfold cmp_Or
  have hl : (([a, b] : List Int).length : Int) = 2 := rfl
  simp only [hl]
  unfold cmp_Or_l0
  rw [bz (by decide), hl]
  have w1 : IntKind.wrap .i64 ((0 : Int) + 1) = 1 := by decide
  have w2 : IntKind.wrap .i64 ((1 : Int) + 1) = 2 := by decide
  rw [btt (by decide), w1]
  refine nz_some ?_
  unfold cmp_Or_l0
  rw [bz (by decide), hl, btt (by decide), w2]
  show (bif (b != 0) then some b else cmp_Or_l0 (m + 3) [a, b] (m + 1) 2 2) = some b
  by_cases hb : b = 0
  · rw [hb]; rfl
  · rw [btt (by rw [bne_iff_ne]; exact hb)]
def c1 (a b : GLabel) : Int := if csS a.Name b.Name ≠ 0 then csS a.Name b.Name else csS a.Value b.Value
theorem c1_eq (n : Nat) (a b : GLabel) (hn : 6 ≤ n) : labels_Compare_c1 n a b = some (c1 a b) := by
  obtain ⟨m, rfl⟩ : ∃ m, n = m + 1 := ⟨n - 1, by omega⟩
  unfold labels_Compare_c1
  simp only [cmpS_eq m _ _ (show 2 ≤ m by omega), or_eq m _ _ (show 5 ≤ m by omega), Option.bind_some]
  rfl
def lcmpL : List GLabel → List GLabel → Int
  | [], [] => 0
  | [], _ :: _ => -1
  | _ :: _, [] => 1
  | a :: l, b :: r => if c1 a b ≠ 0 then c1 a b else lcmpL l r
theorem dropL {l : List GLabel} {i : Nat} (h : i < l.length) : l.drop i = l.getD i dGLabel :: l.drop (i + 1) := by
  rw [List.drop_eq_getElem_cons h, List.getD_eq_getElem?_getD, List.getElem?_eq_getElem h]; rfl
theorem compareF_l0 (n : Nat) (p q : List GLabel) (hn : 6 ≤ n) (hp : p.length ≤ 1000) : ∀ (k i m : Nat), i + k = p.length → i ≤ q.length → k < m → slices_CompareFunc_l0 n p q m (p.length : Int) (i : Int) = some (lcmpL (p.drop i) (q.drop i))
  | k, i, 0, _, _, h => by omega
  | 0, i, m + 1, h, hq, _ => by
    have h1 : ¬ ((i : Int) < (p.length : Int)) := by omega
    unfold slices_CompareFunc_l0
    rw [bzn h1, List.drop_eq_nil_of_le (show p.length ≤ i by omega)]
    unfold slices_CompareFunc_s1
    by_cases h2 : p.length < q.length
    · rw [bz (show (p.length : Int) < (q.length : Int) by omega), dropL (show i < q.length by omega)]; rfl
    · rw [bzn (show ¬ (p.length : Int) < (q.length : Int) by omega), List.drop_eq_nil_of_le (show q.length ≤ i by omega)]; rfl
  | k + 1, i, m + 1, h, hq, h1 => by
    have hx : i < p.length := by omega
    unfold slices_CompareFunc_l0
    rw [bz (show (i : Int) < (p.length : Int) by omega), dec_in i _ hx, cond_true, toNat_c, dropL hx]
    by_cases h2 : i < q.length
    · rw [bzn (show ¬ (i : Int) ≥ (q.length : Int) by omega), dec_in i _ h2, cond_true, c1_eq n _ _ hn, Option.bind_some, wr1 i (by omega), compareF_l0 n p q hn hp k (i + 1) m (by omega) (by omega) (by omega), dropL h2]
      exact nz_some rfl
    · rw [bz (show (i : Int) ≥ (q.length : Int) by omega), List.drop_eq_nil_of_le (show q.length ≤ i by omega)]; rfl
theorem lcmp_eq (n : Nat) (p q : List GLabel) (hn : 1100 ≤ n) (hp : p.length ≤ 1000) : labels_Compare n p q = some (lcmpL p q) := by
  obtain ⟨m, rfl⟩ : ∃ m, n = m + 2 := ⟨n - 2, by omega⟩
  unfold labels_Compare slices_CompareFunc
  simp only
  have := compareF_l0 m p q (by omega) hp p.length 0 m (by omega) (by omega) (by omega)
  rw [Int.natCast_zero, List.drop_zero, List.drop_zero] at this
  rw [this]; rfl
theorem rcompare_s1 (n : Nat) (p q : List GLabel) (i : Nat) (hp : i ≤ p.length) (hq : i ≤ q.length) (h : ¬ (i < p.length ∧ i < q.length)) : lookoutref05_Compare_s1 n p q = some (lcmpL (p.drop i) (q.drop i)) := by
  unfold lookoutref05_Compare_s1
  by_cases h1 : p.length < q.length
  · rw [bz (show (p.length : Int) < (q.length : Int) by omega), List.drop_eq_nil_of_le (show p.length ≤ i by omega), dropL (show i < q.length by omega)]; rfl
  · rw [bzn (show ¬ (p.length : Int) < (q.length : Int) by omega)]
    by_cases h2 : p.length > q.length
    · rw [bz (show (p.length : Int) > (q.length : Int) by omega), List.drop_eq_nil_of_le (show q.length ≤ i by omega), dropL (show i < p.length by omega)]; rfl
    · rw [bzn (show ¬ (p.length : Int) > (q.length : Int) by omega), List.drop_eq_nil_of_le (show q.length ≤ i by omega), List.drop_eq_nil_of_le (show p.length ≤ i by omega)]; rfl
theorem rcompare_l0 (n : Nat) (p q : List GLabel) (hn : 6 ≤ n) (hpl : p.length ≤ 1000) : ∀ (k i m : Nat), i + k = p.length → i ≤ q.length → k < m → lookoutref05_Compare_l0 n p q m (i : Int) = some (lcmpL (p.drop i) (q.drop i))
  | k, i, 0, _, _, h => by omega
  | 0, i, m + 1, h, hq, _ => by
    have h1 : ¬ ((i : Int) < (p.length : Int)) := by omega
    unfold lookoutref05_Compare_l0
    rw [bzn h1]
    exact rcompare_s1 n p q i (by omega) hq (by omega)
  | k + 1, i, m + 1, h, hq, h1 => by
    have hx : i < p.length := by omega
    unfold lookoutref05_Compare_l0
    rw [bz (show (i : Int) < (p.length : Int) by omega)]
    by_cases h2 : i < q.length
    · rw [bz (show (i : Int) < (q.length : Int) by omega), dec_in i _ hx, dec_in i _ h2]
      simp only [cond_true, toNat_c]
      rw [text_eq n _ _ (by omega), text_eq n _ _ (by omega), Option.bind_some, Option.bind_some, wr1 i (by omega), rcompare_l0 n p q hn hpl k (i + 1) m (by omega) (by omega) (by omega), dropL hx, dropL h2, lcmpL]
      refine (nz_some (nz_some rfl)).trans ?_
      congr 1
      unfold c1
      by_cases ha : csS (p.getD i dGLabel).Name (q.getD i dGLabel).Name = 0
      · rw [if_neg (show ¬ csS (p.getD i dGLabel).Name (q.getD i dGLabel).Name ≠ 0 from fun h => h ha), if_neg (show ¬ csS (p.getD i dGLabel).Name (q.getD i dGLabel).Name ≠ 0 from fun h => h ha)]
      · rw [if_pos (show csS (p.getD i dGLabel).Name (q.getD i dGLabel).Name ≠ 0 from ha), if_pos (show csS (p.getD i dGLabel).Name (q.getD i dGLabel).Name ≠ 0 from ha), if_pos (show csS (p.getD i dGLabel).Name (q.getD i dGLabel).Name ≠ 0 from ha)]
    · rw [bzn (show ¬ (i : Int) < (q.length : Int) by omega)]
      exact rcompare_s1 n p q i (by omega) hq (by omega)
theorem rlcmp_eq (n : Nat) (p q : List GLabel) (hn : 1100 ≤ n) (hp : p.length ≤ 1000) : lookoutref05_Compare n p q = some (lcmpL p q) := by
  obtain ⟨m, rfl⟩ : ∃ m, n = m + 1 := ⟨n - 1, by omega⟩
  unfold lookoutref05_Compare
  have := rcompare_l0 m p q (by omega) hp p.length 0 m (by omega) (by omega) (by omega)
  rw [Int.natCast_zero, List.drop_zero, List.drop_zero] at this
  exact this
def ccmp (a b : GChunk) : Int := if cmpI a.Signal b.Signal ≠ 0 then cmpI a.Signal b.Signal else lcmpL a.Labels b.Labels
theorem ccmp_eq (n : Nat) (a b : GChunk) (hn : 1200 ≤ n) (ha : a.Labels.length ≤ 1000) : block_compare n a b = some (ccmp a b) := by
  obtain ⟨m, rfl⟩ : ∃ m, n = m + 1 := ⟨n - 1, by omega⟩
  unfold block_compare
  simp only [cmpI_eq m _ _ (show 2 ≤ m by omega), lcmp_eq m _ _ (show 1100 ≤ m by omega) ha, or_eq m _ _ (show 5 ≤ m by omega), Option.bind_some]
  rfl
theorem rccmp_eq (n : Nat) (a b : GChunk) (hn : 1200 ≤ n) (ha : a.Labels.length ≤ 1000) : lookoutref21_Compare n a b = some (ccmp a b) := by
  obtain ⟨m, rfl⟩ : ∃ m, n = m + 1 := ⟨n - 1, by omega⟩
  unfold lookoutref21_Compare ccmp cmpI
  simp only [rlcmp_eq m _ _ (show 1100 ≤ m by omega) ha, Option.bind_some]
  by_cases h1 : a.Signal < b.Signal
  · rw [bz h1, if_pos h1]; rfl
  · rw [bzn h1, if_neg h1]
    by_cases h2 : a.Signal > b.Signal
    · rw [bz h2, if_pos h2]; rfl
    · rw [bzn h2, if_neg h2]; rfl
/-! ### Blocks -/
def smallB (b : GBlock) : Prop := b.Chunks.length ≤ 8 ∧ ∀ c ∈ b.Chunks, smallL c.Labels
def bstep (b : GBlock) (i : Nat) : Int :=
  if cck b.Width (b.Chunks.getD i dGChunk) ≠ 0 then cck b.Width (b.Chunks.getD i dGChunk) else if 0 < i ∧ ccmp (b.Chunks.getD (i - 1) dGChunk) (b.Chunks.getD i dGChunk) ≥ 0 then 9 else 0
def bckL (b : GBlock) : Nat → Nat → Int
  | 0, _ => 0
  | k + 1, i => if bstep b i ≠ 0 then bstep b i else bckL b k (i + 1)
def bck (b : GBlock) : Int :=
  if b.Id < 1 then 2 else if b.Id > 1152921504606846976 then 2 else if b.Width < 0 then 2 else if b.Width > 1099511627776 then 2 else if b.From < 0 then 2 else if b.From > 1099511627776 then 2 else
  if b.Width = 0 ∧ b.From ≠ 0 then 2 else if b.Chunks.length > 4000 then 4 else bckL b b.Chunks.length 0
theorem memC {l : List GChunk} {i : Nat} (h : i < l.length) : l.getD i dGChunk ∈ l := by
  rw [List.getD_eq_getElem?_getD, List.getElem?_eq_getElem h]; exact List.getElem_mem h
theorem bl_step (b : GBlock) (i k : Nat) (x y : Option Int) (hx : x = some (bckL b k (i + 1))) (hi : i < b.Chunks.length) (hl : b.Chunks.length ≤ 8) (hy : 0 < i → y = some (ccmp (b.Chunks.getD (i - 1) dGChunk) (b.Chunks.getD i dGChunk))) :
    (bif (cck b.Width (b.Chunks.getD i dGChunk) != 0) then some (cck b.Width (b.Chunks.getD i dGChunk)) else bif decide ((i : Int) > 0) then (y.bind fun r2 => (bif decide (r2 ≥ 0) then some 9 else x)) else x) = some (bckL b (k + 1) i) := by
  rw [hx, bckL]
  unfold bstep
  generalize cck b.Width (b.Chunks.getD i dGChunk) = z
  by_cases hz : z = 0
  · subst hz
    rw [show ((0 : Int) != 0) = false from rfl, cond_false, show (if (0 : Int) ≠ 0 then (0 : Int) else if 0 < i ∧ ccmp (b.Chunks.getD (i - 1) dGChunk) (b.Chunks.getD i dGChunk) ≥ 0 then 9 else 0) = (if 0 < i ∧ ccmp (b.Chunks.getD (i - 1) dGChunk) (b.Chunks.getD i dGChunk) ≥ 0 then 9 else 0) from if_neg (fun h => h rfl)]
    by_cases h0 : 0 < i
    · rw [bz (show (i : Int) > 0 by omega), hy h0, Option.bind_some]
      by_cases hc : ccmp (b.Chunks.getD (i - 1) dGChunk) (b.Chunks.getD i dGChunk) ≥ 0
      · rw [bz hc, show (if 0 < i ∧ ccmp (b.Chunks.getD (i - 1) dGChunk) (b.Chunks.getD i dGChunk) ≥ 0 then (9 : Int) else 0) = 9 from if_pos ⟨h0, hc⟩]; rfl
      · rw [bzn hc, show (if 0 < i ∧ ccmp (b.Chunks.getD (i - 1) dGChunk) (b.Chunks.getD i dGChunk) ≥ 0 then (9 : Int) else 0) = 0 from if_neg (fun h => hc h.2)]; rfl
    · rw [bzn (show ¬ (i : Int) > 0 by omega), show (if 0 < i ∧ ccmp (b.Chunks.getD (i - 1) dGChunk) (b.Chunks.getD i dGChunk) ≥ 0 then (9 : Int) else 0) = 0 from if_neg (fun h => h0 h.1)]; rfl
  · rw [btt (show (z != 0) = true by rw [bne_iff_ne]; exact hz), show (if z ≠ 0 then z else if 0 < i ∧ ccmp (b.Chunks.getD (i - 1) dGChunk) (b.Chunks.getD i dGChunk) ≥ 0 then 9 else 0) = z from if_pos hz, if_pos hz]
theorem bcheck_l0 (n : Nat) (b : GBlock) (hn : 1300 ≤ n) (hb : smallB b) (hw : 0 ≤ b.Width) : ∀ (k i m : Nat), i + k = b.Chunks.length → k < m → block_Check_l0 n b m (b.Chunks.length : Int) (i : Int) = some (bckL b k i)
  | k, i, 0, _, h => by omega
  | 0, i, m + 1, h, _ => by
    have h1 : ¬ ((i : Int) < (b.Chunks.length : Int)) := by omega
    unfold block_Check_l0
    rw [bzn h1]; rfl
  | k + 1, i, m + 1, h, h1 => by
    have hx : i < b.Chunks.length := by omega
    have ih := bcheck_l0 n b hn hb hw k (i + 1) m (by omega) (by omega)
    have hl := hb.1
    unfold block_Check_l0
    rw [bz (show (i : Int) < (b.Chunks.length : Int) by omega), dec_in i _ hx, cond_true, toNat_c, wr1 i (by omega)]
    have e1 := cck_eq n (b.Chunks.getD i dGChunk) b.Width hw (by omega)
    refine (congrArg (fun z => Option.bind z _) e1).trans ?_
    rw [Option.bind_some]
    have hw1 : 0 < i → IntKind.wrap .i64 ((i : Int) - 1) = ((i - 1 : Nat) : Int) := fun h0 => by rw [wr _ (by omega) (by omega)]; omega
    by_cases h0 : 0 < i
    · rw [hw1 h0, dec_in (i - 1) _ (by omega), cond_true, toNat_c]
      refine bl_step b i k _ _ ih hx hl (fun _ => ?_)
      exact ccmp_eq n (b.Chunks.getD (i - 1) dGChunk) (b.Chunks.getD i dGChunk) (by omega) (by have := (hb.2 _ (memC (show i - 1 < b.Chunks.length by omega))).2; omega)
    · rw [bzn (show ¬ (i : Int) > 0 by omega)]
      have := bl_step b i k _ none ih hx hl (fun h => absurd h h0)
      rw [bzn (show ¬ (i : Int) > 0 by omega)] at this
      exact this
theorem rbcheck_l0 (n : Nat) (b : GBlock) (hn : 1300 ≤ n) (hb : smallB b) (hw : 0 ≤ b.Width) : ∀ (k i m : Nat), i + k = b.Chunks.length → k < m → lookoutref21_Check_l0 n b m (i : Int) = some (bckL b k i)
  | k, i, 0, _, h => by omega
  | 0, i, m + 1, h, _ => by
    have h1 : ¬ ((i : Int) < (b.Chunks.length : Int)) := by omega
    unfold lookoutref21_Check_l0
    rw [bzn h1]; rfl
  | k + 1, i, m + 1, h, h1 => by
    have hx : i < b.Chunks.length := by omega
    have ih := rbcheck_l0 n b hn hb hw k (i + 1) m (by omega) (by omega)
    have hl := hb.1
    unfold lookoutref21_Check_l0
    rw [bz (show (i : Int) < (b.Chunks.length : Int) by omega), dec_in i _ hx]
    simp only [cond_true, toNat_c]
    rw [wr1 i (by omega)]
    have e1 := rcck_eq n (b.Chunks.getD i dGChunk) b.Width hw (fun x hx2 => ((hb.2 _ (memC hx)).1 x hx2).1) (by omega)
    refine (congrArg (fun z => Option.bind z _) e1).trans ?_
    rw [Option.bind_some]
    have hw1 : 0 < i → IntKind.wrap .i64 ((i : Int) - 1) = ((i - 1 : Nat) : Int) := fun h0 => by rw [wr _ (by omega) (by omega)]; omega
    by_cases h0 : 0 < i
    · rw [hw1 h0, dec_in (i - 1) _ (by omega), cond_true, toNat_c]
      refine bl_step b i k _ _ ih hx hl (fun _ => ?_)
      exact rccmp_eq n (b.Chunks.getD (i - 1) dGChunk) (b.Chunks.getD i dGChunk) (by omega) (by have := (hb.2 _ (memC (show i - 1 < b.Chunks.length by omega))).2; omega)
    · rw [bzn (show ¬ (i : Int) > 0 by omega)]
      have := bl_step b i k _ none ih hx hl (fun h => absurd h h0)
      rw [bzn (show ¬ (i : Int) > 0 by omega)] at this
      exact this
theorem bsomeN {α : Type} {c : Prop} [Decidable c] {a y : α} {x : Option α} (h : ¬ c → x = some y) : (bif decide c then some a else x) = some (if c then a else y) := by
  by_cases hc : c
  · rw [decide_eq_true hc, if_pos hc]; rfl
  · rw [decide_eq_false hc, if_neg hc]; exact h hc
theorem bcheck_eq (n : Nat) (b : GBlock) (hn : 1400 ≤ n) (hb : smallB b) : block_Check n b = some (bck b) := by
  obtain ⟨m, rfl⟩ : ∃ m, n = m + 1 := ⟨n - 1, by omega⟩
  unfold block_Check bck
  refine bsome (bsome (bsomeN fun hw => bsome (bsomeN fun hf => bsome ?_)))
  have hl := hb.1
  have hX := bcheck_l0 m b (by omega) hb (by omega) b.Chunks.length 0 m (by omega) (by omega)
  rw [Int.natCast_zero] at hX
  rw [hX, beqD, bzn (show ¬ (b.Chunks.length : Int) > 4000 by omega), if_neg (show ¬ b.Chunks.length > 4000 by omega)]
  by_cases h0 : b.Width = 0
  · rw [decide_eq_true h0, cond_true]
    by_cases h1 : b.From = 0
    · rw [bff (by rw [h1]; rfl), if_neg (fun h => h.2 h1)]
    · rw [btt (by rw [bne_iff_ne]; exact h1), if_pos ⟨h0, h1⟩]
  · rw [decide_eq_false h0, cond_false, if_neg (fun h => h0 h.1)]
theorem rbcheck_eq (n : Nat) (b : GBlock) (hn : 1400 ≤ n) (hb : smallB b) : lookoutref21_Check n b = some (bck b) := by
  obtain ⟨m, rfl⟩ : ∃ m, n = m + 1 := ⟨n - 1, by omega⟩
  unfold lookoutref21_Check bck
  refine bsome (bsome (bsomeN fun hw => bsome (bsomeN fun hf => bsome ?_)))
  have hl := hb.1
  have hX := rbcheck_l0 m b (by omega) hb (by omega) b.Chunks.length 0 m (by omega) (by omega)
  rw [Int.natCast_zero] at hX
  rw [hX, beqD, bzn (show ¬ (b.Chunks.length : Int) > 4000 by omega), if_neg (show ¬ b.Chunks.length > 4000 by omega)]
  by_cases h0 : b.Width = 0
  · rw [decide_eq_true h0, cond_true]
    by_cases h1 : b.From = 0
    · rw [bzn (show ¬ b.From > 0 by omega), if_neg (fun h => h.2 h1)]
    · rw [bz (show b.From > 0 by omega), if_pos ⟨h0, h1⟩]
  · rw [decide_eq_false h0, cond_false, if_neg (fun h => h0 h.1)]
/-! ### The bounds -/
theorem great05_l0 (n : Nat) (l : List GLabel) (hl : l.length ≤ 9223372036854775807) : ∀ (k i m : Nat), i + k = l.length → k < m → (∀ x ∈ l.take i, x.Name.size ≤ 61 ∧ x.Value.size ≤ 201) → ∃ g, lookoutref05_Great_l0 n l m (i : Int) = some g ∧ (g = false → smallL l)
  | k, i, 0, _, h, _ => by omega
  | 0, i, m + 1, h, _, hs => by
    have h1 : ¬ ((i : Int) < (l.length : Int)) := by omega
    unfold lookoutref05_Great_l0
    rw [bzn h1]
    refine ⟨_, rfl, fun hg => ⟨?_, by have := of_decide_eq_false hg; omega⟩⟩
    rw [List.take_of_length_le (by omega)] at hs; exact hs
  | k + 1, i, m + 1, h, h1, hs => by
    have hx : i < l.length := by omega
    unfold lookoutref05_Great_l0
    rw [bz (show (i : Int) < (l.length : Int) by omega), dec_in i _ hx]
    simp only [cond_true, toNat_c]
    by_cases h2 : (l.getD i dGLabel).Name.size > 61
    · rw [bz (show ((l.getD i dGLabel).Name.size : Int) > 61 by omega)]
      exact ⟨_, rfl, fun hg => by cases hg⟩
    · rw [bzn (show ¬ ((l.getD i dGLabel).Name.size : Int) > 61 by omega)]
      by_cases h3 : (l.getD i dGLabel).Value.size > 201
      · rw [bz (show ((l.getD i dGLabel).Value.size : Int) > 201 by omega)]
        exact ⟨_, rfl, fun hg => by cases hg⟩
      · rw [bzn (show ¬ ((l.getD i dGLabel).Value.size : Int) > 201 by omega), wr1 i (by omega)]
        refine great05_l0 n l hl k (i + 1) m (by omega) (by omega) (fun x hx2 => ?_)
        rw [List.take_add_one, List.getElem?_eq_getElem hx, Option.toList_some] at hx2
        rcases List.mem_append.1 hx2 with e | e
        · exact hs x e
        · have := List.mem_singleton.1 e
          rw [List.getD_eq_getElem?_getD, List.getElem?_eq_getElem hx] at h2 h3
          subst this
          exact ⟨by simpa using h2, by simpa using h3⟩
theorem great05_eq (n : Nat) (l : List GLabel) (hl : l.length ≤ 9223372036854775807) (hn : l.length + 3 ≤ n) : ∃ g, lookoutref05_Great n l = some g ∧ (g = false → smallL l) := by
  obtain ⟨m, rfl⟩ : ∃ m, n = m + 1 := ⟨n - 1, by omega⟩
  unfold lookoutref05_Great
  exact great05_l0 m l hl l.length 0 m (by omega) (by omega) (fun x hx => by cases hx)
theorem great21_l0 (n : Nat) (b : GBlock) (hl : b.Chunks.length ≤ 9223372036854775807) (hc : ∀ c ∈ b.Chunks, c.Labels.length ≤ 9223372036854775807 ∧ c.Labels.length + 3 ≤ n) : ∀ (k i m : Nat), i + k = b.Chunks.length → k < m → (∀ c ∈ b.Chunks.take i, smallL c.Labels) → ∃ g, lookoutref21_Great_l0 n b m (i : Int) = some g ∧ (g = false → smallB b)
  | k, i, 0, _, h, _ => by omega
  | 0, i, m + 1, h, _, hs => by
    have h1 : ¬ ((i : Int) < (b.Chunks.length : Int)) := by omega
    unfold lookoutref21_Great_l0
    rw [bzn h1]
    refine ⟨_, rfl, fun hg => ⟨by have := of_decide_eq_false hg; omega, ?_⟩⟩
    rw [List.take_of_length_le (by omega)] at hs; exact hs
  | k + 1, i, m + 1, h, h1, hs => by
    have hx : i < b.Chunks.length := by omega
    obtain ⟨g, hg, hg2⟩ := great05_eq n (b.Chunks.getD i dGChunk).Labels (hc _ (memC hx)).1 (hc _ (memC hx)).2
    unfold lookoutref21_Great_l0
    rw [bz (show (i : Int) < (b.Chunks.length : Int) by omega), dec_in i _ hx]
    simp only [cond_true, toNat_c]
    rw [hg, Option.bind_some]
    cases g with
    | true => exact ⟨_, rfl, fun hg => by cases hg⟩
    | false =>
      rw [cond_false]
      by_cases h3 : (b.Chunks.getD i dGChunk).Data.size > 600
      · rw [bz (show ((b.Chunks.getD i dGChunk).Data.size : Int) > 600 by omega)]
        exact ⟨_, rfl, fun hg => by cases hg⟩
      · rw [bzn (show ¬ ((b.Chunks.getD i dGChunk).Data.size : Int) > 600 by omega), wr1 i (by omega)]
        refine great21_l0 n b hl hc k (i + 1) m (by omega) (by omega) (fun x hx2 => ?_)
        rw [List.take_add_one, List.getElem?_eq_getElem hx, Option.toList_some] at hx2
        rcases List.mem_append.1 hx2 with e | e
        · exact hs x e
        · have := List.mem_singleton.1 e
          have hg3 := hg2 rfl
          rw [List.getD_eq_getElem?_getD, List.getElem?_eq_getElem hx] at hg3
          subst this
          exact hg3
theorem great21_eq (n : Nat) (b : GBlock) (hl : b.Chunks.length ≤ 9223372036854775807) (hc : ∀ c ∈ b.Chunks, c.Labels.length ≤ 9223372036854775807 ∧ c.Labels.length + 4 ≤ n) (hn : b.Chunks.length + 3 ≤ n) : ∃ g, lookoutref21_Great n b = some g ∧ (g = false → smallB b) := by
  obtain ⟨m, rfl⟩ : ∃ m, n = m + 1 := ⟨n - 1, by omega⟩
  unfold lookoutref21_Great
  exact great21_l0 m b hl (fun c hcc => ⟨(hc c hcc).1, by have := (hc c hcc).2; omega⟩) b.Chunks.length 0 m (by omega) (by omega) (fun x hx => by cases hx)
end Go.Proofs.YtomalcfghdaghaaGreatDoor

/- Plain laws of blocks, 3: the description of a block; the laws ManifestRef and ManifestDescribes. -/
set_option linter.unusedVariables false
set_option linter.unusedSimpArgs false
namespace Go.Proofs.YtomalcfghdaghaaGreatDoor
open Go Go.AM Go.Lib
def zOk (c : GChunk) : Prop := c.Zone.Count = 0 ∨ (0 < c.Zone.Count ∧ 1 ≤ c.Zone.MinTime ∧ c.Zone.MinTime ≤ c.Zone.MaxTime ∧ c.Zone.MaxTime ≤ 1099511627776)
theorem bckL_zero (b : GBlock) : ∀ (k i : Nat), bckL b k i = 0 → ∀ j, i ≤ j → j < i + k → bstep b j = 0
  | 0, i, _, j, h1, h2 => by omega
  | k + 1, i, h, j, h1, h2 => by
    unfold bckL at h
    have hs : bstep b i = 0 := by
      by_cases hc : bstep b i = 0
      · exact hc
      · rw [if_pos hc] at h; exact h
    rw [if_neg (show ¬ bstep b i ≠ 0 from fun e => e hs)] at h
    by_cases hj : j = i
    · subst hj; exact hs
    · exact bckL_zero b k (i + 1) h j (by omega) (by omega)
theorem nz_zero {a x : Int} (h : (if a ≠ 0 then a else x) = 0) : a = 0 ∧ x = 0 := by
  by_cases ha : a = 0
  · rw [if_neg (show ¬ a ≠ 0 from fun e => e ha)] at h; exact ⟨ha, h⟩
  · rw [if_pos ha] at h; exact absurd h ha
theorem zck_ok {c : GChunk} (h : zck c.Zone = 0) : zOk c := by
  unfold zck at h
  obtain ⟨h1, h⟩ := if_zero (by decide) h
  obtain ⟨h2, h⟩ := if_zero (by decide) h
  by_cases h0 : c.Zone.Count = 0
  · exact .inl h0
  · rw [if_neg h0] at h
    obtain ⟨h3, h⟩ := if_zero (by decide) h
    obtain ⟨h4, h⟩ := if_zero (by decide) h
    obtain ⟨h5, h⟩ := if_zero (by decide) h
    obtain ⟨h6, h⟩ := if_zero (by decide) h
    obtain ⟨h7, h⟩ := if_zero (by decide) h
    exact .inr ⟨by omega, by omega, by omega, by omega⟩
theorem cck_ok {w : Int} {c : GChunk} (h : cck w c = 0) : zOk c := by
  unfold cck at h
  obtain ⟨_, h⟩ := if_zero (by decide) h
  obtain ⟨_, h⟩ := if_zero (by decide) h
  obtain ⟨_, h⟩ := if_zero (by decide) h
  obtain ⟨_, h⟩ := nz_zero h
  obtain ⟨_, h⟩ := if_zero (by decide) h
  exact zck_ok (nz_zero h).1
theorem bck_ok {b : GBlock} (h : bck b = 0) : (1 ≤ b.Id ∧ b.Id ≤ 1152921504606846976) ∧ (0 ≤ b.Width ∧ b.Width ≤ 1099511627776) ∧ ∀ c ∈ b.Chunks, zOk c := by
  unfold bck at h
  obtain ⟨h1, h⟩ := if_zero (by decide) h
  obtain ⟨h2, h⟩ := if_zero (by decide) h
  obtain ⟨h3, h⟩ := if_zero (by decide) h
  obtain ⟨h4, h⟩ := if_zero (by decide) h
  obtain ⟨h5, h⟩ := if_zero (by decide) h
  obtain ⟨h6, h⟩ := if_zero (by decide) h
  obtain ⟨h7, h⟩ := if_zero (by decide) h
  obtain ⟨h8, h⟩ := if_zero (by decide) h
  refine ⟨⟨by omega, by omega⟩, ⟨by omega, by omega⟩, fun c hc => ?_⟩
  obtain ⟨j, hj, rfl⟩ := List.getElem_of_mem hc
  have hs := bckL_zero b _ _ h j (by omega) (by omega)
  unfold bstep at hs
  have := cck_ok (nz_zero hs).1
  rw [List.getD_eq_getElem?_getD, List.getElem?_eq_getElem hj] at this
  exact this
/-! ### The times -/
def tstep (acc : Option (Int × Int)) (c : GChunk) : Option (Int × Int) :=
  if c.Zone.Count = 0 then acc else match acc with
    | none => some (c.Zone.MinTime, c.Zone.MaxTime)
    | some (a, b) => some (min c.Zone.MinTime a, max c.Zone.MaxTime b)
def tfold : Option (Int × Int) → List GChunk → Option (Int × Int)
  | acc, [] => acc
  | acc, c :: r => tfold (tstep acc c) r
def fin2 (acc : Option (Int × Int)) : Int × Int := acc.getD (1, 1)
def tOkA (acc : Option (Int × Int)) : Prop := ∀ a b, acc = some (a, b) → 1 ≤ a ∧ a ≤ b ∧ b ≤ 1099511627776
theorem tstep_ok {acc : Option (Int × Int)} {c : GChunk} (ha : tOkA acc) (hc : zOk c) : tOkA (tstep acc c) := by
  intro a b h
  unfold tstep at h
  by_cases h0 : c.Zone.Count = 0
  · rw [if_pos h0] at h; exact ha a b h
  · rw [if_neg h0] at h
    rcases hc with hc | ⟨h1, h2, h3, h4⟩
    · exact absurd hc h0
    · cases acc with
      | none => cases h; exact ⟨h2, h3, h4⟩
      | some p =>
        obtain ⟨x, y⟩ := p
        cases h
        have := ha x y rfl
        omega
theorem tfold_ok : ∀ (l : List GChunk) (acc : Option (Int × Int)), tOkA acc → (∀ c ∈ l, zOk c) → tOkA (tfold acc l)
  | [], acc, h, _ => h
  | c :: r, acc, h, hz => tfold_ok r _ (tstep_ok h (hz c (.head _))) (fun x hx => hz x (.tail _ hx))
theorem fin2_ok {acc : Option (Int × Int)} (h : tOkA acc) : 1 ≤ (fin2 acc).1 ∧ (fin2 acc).1 ≤ (fin2 acc).2 ∧ (fin2 acc).2 ≤ 1099511627776 := by
  cases acc with
  | none => decide
  | some p => exact h p.1 p.2 rfl
theorem tfold_some : ∀ (l : List GChunk) (a b : Int), ∃ a' b', tfold (some (a, b)) l = some (a', b') ∧ a' ≤ a ∧ b ≤ b' ∧ ∀ c ∈ l, c.Zone.Count ≠ 0 → a' ≤ c.Zone.MinTime ∧ c.Zone.MaxTime ≤ b'
  | [], a, b => ⟨a, b, rfl, Int.le_refl _, Int.le_refl _, fun c hc => by cases hc⟩
  | c :: r, a, b => by
    by_cases h0 : c.Zone.Count = 0
    · obtain ⟨a', b', h1, h2, h3, h4⟩ := tfold_some r a b
      refine ⟨a', b', ?_, h2, h3, fun x hx hne => ?_⟩
      · unfold tfold tstep; rw [if_pos h0]; exact h1
      · rcases List.mem_cons.1 hx with e | e
        · subst e; exact absurd h0 hne
        · exact h4 x e hne
    · obtain ⟨a', b', h1, h2, h3, h4⟩ := tfold_some r (min c.Zone.MinTime a) (max c.Zone.MaxTime b)
      refine ⟨a', b', ?_, by omega, by omega, fun x hx hne => ?_⟩
      · unfold tfold tstep; rw [if_neg h0]; exact h1
      · rcases List.mem_cons.1 hx with e | e
        · subst e; omega
        · exact h4 x e hne
theorem tfold_none : ∀ (l : List GChunk), ∀ c ∈ l, c.Zone.Count ≠ 0 → (fin2 (tfold none l)).1 ≤ c.Zone.MinTime ∧ c.Zone.MaxTime ≤ (fin2 (tfold none l)).2
  | [], c, hc, _ => by cases hc
  | d :: r, c, hc, hne => by
    by_cases h0 : d.Zone.Count = 0
    · have e : tfold none (d :: r) = tfold none r := by unfold tfold tstep; rw [if_pos h0]; cases r <;> rfl
      rw [e]
      rcases List.mem_cons.1 hc with h | h
      · subst h; exact absurd h0 hne
      · exact tfold_none r c h hne
    · obtain ⟨a', b', h1, h2, h3, h4⟩ := tfold_some r d.Zone.MinTime d.Zone.MaxTime
      have e : tfold none (d :: r) = some (a', b') := by
        have : tfold none (d :: r) = tfold (tstep none d) r := rfl
        rw [this]; unfold tstep; rw [if_neg h0]; exact h1
      rw [e]
      rcases List.mem_cons.1 hc with h | h
      · subst h; exact ⟨h2, h3⟩
      · exact h4 c h hne
theorem dropC {l : List GChunk} {i : Nat} (h : i < l.length) : l.drop i = l.getD i dGChunk :: l.drop (i + 1) := by
  rw [List.drop_eq_getElem_cons h, List.getD_eq_getElem?_getD, List.getElem?_eq_getElem h]; rfl
theorem bmin (a b : Int) : (bif decide (a < b) then a else b) = min a b := by
  by_cases h : a < b
  · rw [bz h]; omega
  · rw [bzn h]; omega
theorem bmax (a b : Int) : (bif decide (a > b) then a else b) = max a b := by
  by_cases h : a > b
  · rw [bz h]; omega
  · rw [bzn h]; omega
def PI (acc : Option (Int × Int)) (x y : Int) : Prop := match acc with
  | none => y = 0
  | some (a, b) => x = a ∧ y = b ∧ 1 ≤ b
def fileOf (b : GBlock) : ByteArray := (⟨#[98, 108, 111, 99, 107, 46]⟩ : ByteArray) ++ ofL (itoa b.Id)
def refOf (b : GBlock) (sz : Int) : GBlockRef := ⟨b.Id, b.Width, fileOf b, (fin2 (tfold none b.Chunks)).1, (fin2 (tfold none b.Chunks)).2, sz⟩
theorem ref_l0 (n : Nat) (b : GBlock) (p1 : Int) (s : ByteArray) (hl : b.Chunks.length ≤ 8) (hz : ∀ c ∈ b.Chunks, zOk c) : ∀ (k i m : Nat) (acc : Option (Int × Int)) (x y : Int), i + k = b.Chunks.length → k < m → PI acc x y →
    manifest_Ref_l0 n b p1 m s x y (b.Chunks.length : Int) (i : Int) = some ⟨b.Id, b.Width, s, (fin2 (tfold acc (b.Chunks.drop i))).1, (fin2 (tfold acc (b.Chunks.drop i))).2, p1⟩
  | k, i, 0, _, _, _, _, h, _ => by omega
  | 0, i, m + 1, acc, x, y, h, _, hp => by
    have h1 : ¬ ((i : Int) < (b.Chunks.length : Int)) := by omega
    unfold manifest_Ref_l0
    rw [bzn h1, List.drop_eq_nil_of_le (show b.Chunks.length ≤ i by omega)]
    unfold manifest_Ref_s3 manifest_Ref_s4
    cases acc with
    | none =>
      have hp : y = 0 := hp
      rw [hp]; rfl
    | some p =>
      obtain ⟨u, v⟩ := p
      obtain ⟨rfl, rfl, h3⟩ := hp
      have : (y == 0) = false := by rw [beq_eq_false_iff_ne]; omega
      rw [bff this]; rfl
  | k + 1, i, m + 1, acc, x, y, h, h1, hp => by
    have hx : i < b.Chunks.length := by omega
    have hzc := hz _ (memC hx)
    have ih := fun acc x y hp => ref_l0 n b p1 s hl hz k (i + 1) m acc x y (by omega) (by omega) hp
    unfold manifest_Ref_l0
    rw [bz (show (i : Int) < (b.Chunks.length : Int) by omega), dec_in i _ hx, cond_true, toNat_c, dropC hx, tfold]
    generalize b.Chunks.getD i dGChunk = c at hzc
    unfold tstep
    rw [beqD]
    by_cases h0 : c.Zone.Count = 0
    · rw [decide_eq_true h0, cond_true, if_pos h0]
      unfold manifest_Ref_s1
      rw [wr1 i (by omega)]
      exact ih acc x y hp
    · rw [decide_eq_false h0, cond_false, if_neg h0]
      rcases hzc with hzc | ⟨z1, z2, z3, z4⟩
      · exact absurd hzc h0
      · cases acc with
        | none =>
          have hp : y = 0 := hp
          subst hp
          rw [show ((0 : Int) == 0) = true from rfl, cond_true]
          unfold manifest_Ref_s2 manifest_Ref_s1
          rw [bmin, bmax, wr1 i (by omega)]
          exact ih (some (c.Zone.MinTime, c.Zone.MaxTime)) _ _ ⟨by omega, by omega, by omega⟩
        | some p =>
          obtain ⟨u, v⟩ := p
          obtain ⟨rfl, rfl, h3⟩ := hp
          have : (y == 0) = false := by rw [beq_eq_false_iff_ne]; omega
          rw [bff this]
          unfold manifest_Ref_s2 manifest_Ref_s1
          rw [bmin, bmax, wr1 i (by omega)]
          exact ih (some (min c.Zone.MinTime x, max c.Zone.MaxTime y)) _ _ ⟨rfl, rfl, by omega⟩
theorem ref_eq (n : Nat) (b : GBlock) (p1 : Int) (hn : 1500 ≤ n) (hb : smallB b) : manifest_Ref n b p1 = some (if bck b ≠ 0 then ⟨0, 0, bE, 0, 0, 0⟩ else refOf b p1) := by
  obtain ⟨m, rfl⟩ : ∃ m, n = m + 1 := ⟨n - 1, by omega⟩
  unfold manifest_Ref
  simp only
  rw [bcheck_eq m b (by omega) hb, Option.bind_some]
  by_cases hc : bck b = 0
  · obtain ⟨hid, hw, hz⟩ := bck_ok hc
    have hlen := itoa_len (x := b.Id) (by omega) (by omega)
    have hsz : (ofL (itoa b.Id)).size = (itoa b.Id).length := ofL_size _
    rw [hc, show ((0 : Int) != 0) = false from rfl, cond_false, if_neg (show ¬ (0 : Int) ≠ 0 from fun h => h rfl), itoaS_eq m _ (by omega) ⟨by omega, by omega⟩, Option.bind_some, bz (by omega)]
    have hl := hb.1
    have := ref_l0 m b p1 (fileOf b) hl hz b.Chunks.length 0 m none 0 0 (by omega) (by omega) rfl
    rw [Int.natCast_zero, List.drop_zero] at this
    exact this
  · rw [btt (show (bck b != 0) = true by rw [bne_iff_ne]; exact hc), if_pos (show bck b ≠ 0 from hc)]
def RI (acc : Option (Int × Int)) (c x y : Int) : Prop := match acc with
  | none => c = 0
  | some (a, b) => 0 < c ∧ x = a ∧ y = b
theorem rref_l0 (n : Nat) (b : GBlock) (p1 : Int) (hn : 1 ≤ n) (hl : b.Chunks.length ≤ 8) (hid : 0 ≤ b.Id ∧ b.Id < 9223372036854775808) (hz : ∀ c ∈ b.Chunks, zOk c) : ∀ (k i m : Nat) (acc : Option (Int × Int)) (c0 x y v1 v2 v3 v4 v5 v6 v7 v8 v9 v10 : Int), i + k = b.Chunks.length → k < m → RI acc c0 x y →
    lookoutref24_Ref_l0 n p1 b m c0 x y v1 v2 v3 v4 v5 v6 v7 v8 v9 v10 (i : Int) = some ⟨b.Id, b.Width, fileOf b, (fin2 (tfold acc (b.Chunks.drop i))).1, (fin2 (tfold acc (b.Chunks.drop i))).2, p1⟩
  | k, i, 0, _, _, _, _, _, _, _, _, _, _, _, _, _, _, _, h, _ => by omega
  | 0, i, m + 1, acc, c0, x, y, _, _, _, _, _, _, _, _, _, _, h, _, hp => by
    have h1 : ¬ ((i : Int) < (b.Chunks.length : Int)) := by omega
    have hlen := itoa_len hid.1 hid.2
    have hsz : (ofL (itoa b.Id)).size = (itoa b.Id).length := ofL_size _
    unfold lookoutref24_Ref_l0
    rw [bzn h1, List.drop_eq_nil_of_le (show b.Chunks.length ≤ i by omega)]
    unfold lookoutref24_Ref_s3 lookoutref24_Ref_s4
    rw [itoaS_eq n _ hn hid]
    simp only [Option.bind_some]
    rw [bz (show 6 + (ofL (itoa b.Id)).size ≤ 9223372036854775807 by omega)]
    cases acc with
    | none =>
      have hp : c0 = 0 := hp
      rw [hp]; rfl
    | some p =>
      obtain ⟨u, v⟩ := p
      obtain ⟨h3, rfl, rfl⟩ := hp
      have : (c0 == 0) = false := by rw [beq_eq_false_iff_ne]; omega
      rw [bff this, bz (show 6 + (ofL (itoa b.Id)).size ≤ 9223372036854775807 by omega)]; rfl
  | k + 1, i, m + 1, acc, c0, x, y, v1, v2, v3, v4, v5, v6, v7, v8, v9, v10, h, h1, hp => by
    have hx : i < b.Chunks.length := by omega
    have hzc := hz _ (memC hx)
    have ih := fun acc c0 x y v1 v2 v3 v4 v5 v6 v7 v8 v9 v10 hp => rref_l0 n b p1 hn hl hid hz k (i + 1) m acc c0 x y v1 v2 v3 v4 v5 v6 v7 v8 v9 v10 (by omega) (by omega) hp
    unfold lookoutref24_Ref_l0
    rw [bz (show (i : Int) < (b.Chunks.length : Int) by omega), dec_in i _ hx, cond_true, toNat_c, dropC hx, tfold]
    generalize b.Chunks.getD i dGChunk = c at hzc
    unfold tstep
    by_cases h0 : c.Zone.Count = 0
    · rw [bzn (show ¬ c.Zone.Count > 0 by omega), if_pos h0]
      unfold lookoutref24_Ref_s1
      rw [bzn (show ¬ c.Zone.Count > 0 by omega)]
      unfold lookoutref24_Ref_s2
      rw [wr1 i (by omega)]
      exact ih acc c0 x y v1 v2 v3 v4 v5 v6 v7 v8 v9 v10 hp
    · rcases hzc with hzc | ⟨z1, z2, z3, z4⟩
      · exact absurd hzc h0
      · rw [bz (show c.Zone.Count > 0 by omega), if_neg h0]
        cases acc with
        | none =>
          have hp : c0 = 0 := hp
          rw [bzn (show ¬ c0 > 0 by omega)]
          unfold lookoutref24_Ref_s1
          rw [bz (show c.Zone.Count > 0 by omega)]
          unfold lookoutref24_Ref_s2
          rw [wr1 i (by omega)]
          exact ih (some (c.Zone.MinTime, c.Zone.MaxTime)) _ _ _ _ _ _ _ _ _ _ _ _ _ ⟨by omega, rfl, rfl⟩
        | some p =>
          obtain ⟨u, v⟩ := p
          obtain ⟨h3, rfl, rfl⟩ := hp
          rw [bz (show c0 > 0 by omega), bmin, bmax]
          unfold lookoutref24_Ref_s1
          rw [bz (show c.Zone.Count > 0 by omega)]
          unfold lookoutref24_Ref_s2
          rw [wr1 i (by omega)]
          exact ih (some (min c.Zone.MinTime x, max c.Zone.MaxTime y)) _ _ _ _ _ _ _ _ _ _ _ _ _ ⟨by omega, by omega, by omega⟩
theorem rref_eq (n : Nat) (b : GBlock) (p1 : Int) (hn : 1500 ≤ n) (hb : smallB b) : lookoutref24_Ref n b p1 = some (if bck b ≠ 0 then ⟨0, 0, bE, 0, 0, 0⟩ else refOf b p1) := by
  obtain ⟨m, rfl⟩ : ∃ m, n = m + 1 := ⟨n - 1, by omega⟩
  unfold lookoutref24_Ref
  simp only
  rw [rbcheck_eq m b (by omega) hb, Option.bind_some]
  by_cases hc : bck b = 0
  · obtain ⟨hid, hw, hz⟩ := bck_ok hc
    have hl := hb.1
    rw [hc, show ((0 : Int) != 0) = false from rfl, cond_false, if_neg (show ¬ (0 : Int) ≠ 0 from fun h => h rfl)]
    have := rref_l0 m b p1 (by omega) hl ⟨by omega, by omega⟩ hz b.Chunks.length 0 m none 0 0 0 0 0 0 0 0 0 0 0 0 0 (by omega) (by omega) rfl
    rw [Int.natCast_zero, List.drop_zero] at this
    exact this
  · rw [btt (show (bck b != 0) = true by rw [bne_iff_ne]; exact hc), if_pos (show bck b ≠ 0 from hc)]
/-! ### The laws -/
theorem labels_bound : ∀ cs : List GChunk, ∃ B : Nat, ∀ c ∈ cs, c.Labels.length ≤ B
  | [] => ⟨0, fun b hb => by cases hb⟩
  | a :: r => by
    obtain ⟨B, h⟩ := labels_bound r
    exact ⟨B + a.Labels.length, fun b hb => by
      rcases List.mem_cons.1 hb with e | e
      · subst e; omega
      · have := h b e; omega⟩
theorem ref_law (x0 : GBlock) (x1 : Int) (h0 : wfGBlock x0) : ∃ n, lookoutlaw24_ManifestRef n x0 x1 = some true := by
  obtain ⟨B, hB⟩ := labels_bound x0.Chunks
  have hcl : x0.Chunks.length ≤ 9223372036854775807 := h0.2.2.2.1.1
  have hll : ∀ c ∈ x0.Chunks, c.Labels.length ≤ 9223372036854775807 := fun c hc => (h0.2.2.2.1.2 c hc).2.1.1
  refine ⟨B + x0.Chunks.length + 300000 + 1, ?_⟩
  have hB2 : ∀ c ∈ x0.Chunks, c.Labels.length ≤ 9223372036854775807 ∧ c.Labels.length + 4 ≤ B + x0.Chunks.length + 300000 := fun c hc => ⟨hll c hc, by have := hB c hc; omega⟩
  generalize hN : B + x0.Chunks.length + 300000 = N at hB2
  have aw := awake_eq N (by omega)
  obtain ⟨g, hg, hg2⟩ := great21_eq N x0 hcl hB2 (by omega)
  unfold lookoutlaw24_ManifestRef
  simp only
  rw [hg, Option.bind_some]
  cases g with
  | true => rw [cond_true, aw]; rfl
  | false =>
    rw [cond_false, ref_eq N x0 x1 (by omega) (hg2 rfl), Option.bind_some, rref_eq N x0 x1 (by omega) (hg2 rfl), Option.bind_some]
    simp only [beq_self_eq_true, beqS, decide_true, Bool.and_self, cond_true]
    rw [aw]; rfl
theorem allB_of (s : ByteArray) : ∀ (k i : Nat), i + k = s.size → (∀ c ∈ (ky s).drop i, okB (c.toNat : Int) = true) → allB s i k = true
  | 0, i, _, _ => rfl
  | k + 1, i, h, ha => by
    have hi : i < s.size := by omega
    rw [drop_ky s i hi] at ha
    unfold allB
    rw [Bool.and_eq_true]
    refine ⟨?_, allB_of s k (i + 1) (by omega) (fun c hc => ha c (.tail _ hc))⟩
    rw [bt_get s i hi]
    exact ha _ (.head _)
theorem file_ky (b : GBlock) : ky (fileOf b) = [98, 108, 111, 99, 107, 46] ++ itoa b.Id := by
  unfold fileOf; rw [ky_app, ky_ofL]
theorem okB_digit {c : UInt8} (h : isD c) : okB (c.toNat : Int) = true := by
  unfold isD at h
  unfold okB
  rw [show decide ((c.toNat : Int) ≥ 48) = true from decide_eq_true (by omega), show decide ((c.toNat : Int) ≤ 57) = true from decide_eq_true (by omega)]
  simp
theorem file_ok {b : GBlock} (h : 1 ≤ b.Id ∧ b.Id ≤ 1152921504606846976) : nmOk (fileOf b) = true := by
  have hlen := itoa_len (x := b.Id) (by omega) (by omega)
  have hsz : (fileOf b).size = 6 + (itoa b.Id).length := by rw [← ky_len, file_ky]; simp; omega
  have hall : ∀ c ∈ ky (fileOf b), okB (c.toNat : Int) = true := fun c hc => by
    rw [file_ky] at hc
    rcases List.mem_append.1 hc with e | e
    · simp only [List.mem_cons, List.not_mem_nil, or_false] at e
      rcases e with rfl | rfl | rfl | rfl | rfl | rfl <;> decide
    · rw [itoa_pos (by omega)] at e
      exact okB_digit (dd_isD _ _ e)
  have hab := allB_of (fileOf b) (fileOf b).size 0 (by omega) (by rw [List.drop_zero]; exact hall)
  have hne : ∀ t : ByteArray, (ky t).head? ≠ some 98 → fileOf b ≠ t := fun t ht e => by
    rw [← e, file_ky] at ht; exact ht rfl
  unfold nmOk isNm
  rw [hab, decide_eq_true (show 0 < (fileOf b).size by omega), decide_eq_true (show (fileOf b).size ≤ 60 by omega), decide_eq_false (hne mfB (by decide)), decide_eq_false (hne mfnB (by decide))]
  rfl
theorem wal1_ok : nmOk (⟨#[119, 97, 108, 46, 49]⟩ : ByteArray) = true := by decide
theorem desc_chk {b : GBlock} {sz : Int} (hb : bck b = 0) (hid : b.Id < 1152921504606846976) (hs : 0 ≤ sz ∧ sz ≤ 1048576) : chk ⟨0, b.Id + 1, 0, (⟨#[119, 97, 108, 46, 49]⟩ : ByteArray), [refOf b sz]⟩ = 0 := by
  obtain ⟨h1, h2, hz⟩ := bck_ok hb
  obtain ⟨t1, t2, t3⟩ := fin2_ok (tfold_ok b.Chunks none (fun a b h => by cases h) hz)
  have hrc : rc (b.Id + 1) 0 (refOf b sz) = 0 := by
    unfold rc refOf
    simp only
    rw [if_neg (by omega), if_neg (by omega), if_neg (by omega), if_neg (by omega), if_neg (by omega), if_neg (by omega), if_neg (by omega), if_neg (by omega), if_neg (by omega), if_neg (by omega), if_neg (by omega), if_pos (file_ok h1)]
  have hnm : ¬ (refOf b sz).File ∈ [(⟨#[119, 97, 108, 46, 49]⟩ : ByteArray)] := fun e => by
    have e2 : fileOf b = (⟨#[119, 97, 108, 46, 49]⟩ : ByteArray) := List.mem_singleton.1 e
    have e3 : (ky (fileOf b)).head? = (ky (⟨#[119, 97, 108, 46, 49]⟩ : ByteArray)).head? := by rw [e2]
    rw [file_ky] at e3
    have e4 : (some (98 : UInt8)) = some 119 := e3
    exact absurd e4 (by decide)
  unfold chk
  simp only
  rw [if_neg (by decide), if_neg (by decide), if_neg (by omega), if_neg (by omega), if_neg (by decide), if_neg (by decide), if_neg (by rw [wal1_ok]; decide), if_neg (by simp)]
  unfold chkL
  rw [hrc, if_neg (show ¬ (0 : Int) ≠ 0 from fun h => h rfl), if_neg hnm]
  rfl
theorem desc_l0 (n : Nat) (p1 : Int) (b : GBlock) (hl : b.Chunks.length ≤ 8) (hz : ∀ c ∈ b.Chunks, zOk c) : ∀ (k i m : Nat), i + k = b.Chunks.length → k < m →
    lookoutlaw24_ManifestDescribes_l0 n p1 b (refOf b p1) m (b.Chunks.length : Int) (i : Int) = lookoutlaw24_ManifestDescribes_s1 n p1 b (refOf b p1)
  | k, i, 0, _, h => by omega
  | 0, i, m + 1, h, _ => by
    have h1 : ¬ ((i : Int) < (b.Chunks.length : Int)) := by omega
    unfold lookoutlaw24_ManifestDescribes_l0
    rw [bzn h1]
  | k + 1, i, m + 1, h, h1 => by
    have hx : i < b.Chunks.length := by omega
    have ih := desc_l0 n p1 b hl hz k (i + 1) m (by omega) (by omega)
    have hm := memC hx
    unfold lookoutlaw24_ManifestDescribes_l0
    rw [bz (show (i : Int) < (b.Chunks.length : Int) by omega), dec_in i _ hx, cond_true, toNat_c, wr1 i (by omega), ih]
    by_cases h0 : (b.Chunks.getD i dGChunk).Zone.Count > 0
    · obtain ⟨t1, t2⟩ := tfold_none b.Chunks _ hm (by omega)
      rw [bz h0, bzn (show ¬ (b.Chunks.getD i dGChunk).Zone.MinTime < (refOf b p1).MinTime from Int.not_lt.2 t1), bzn (show ¬ (b.Chunks.getD i dGChunk).Zone.MaxTime > (refOf b p1).MaxTime from Int.not_lt.2 t2)]
    · rw [bzn h0]
theorem describes_law (x0 : GBlock) (x1 : Int) (h0 : wfGBlock x0) : ∃ n, lookoutlaw24_ManifestDescribes n x0 x1 = some true := by
  obtain ⟨B, hB⟩ := labels_bound x0.Chunks
  have hcl : x0.Chunks.length ≤ 9223372036854775807 := h0.2.2.2.1.1
  have hll : ∀ c ∈ x0.Chunks, c.Labels.length ≤ 9223372036854775807 := fun c hc => (h0.2.2.2.1.2 c hc).2.1.1
  refine ⟨B + x0.Chunks.length + 300000 + 1, ?_⟩
  have hB2 : ∀ c ∈ x0.Chunks, c.Labels.length ≤ 9223372036854775807 ∧ c.Labels.length + 4 ≤ B + x0.Chunks.length + 300000 := fun c hc => ⟨hll c hc, by have := hB c hc; omega⟩
  generalize hN : B + x0.Chunks.length + 300000 = N at hB2
  have aw := awake_eq N (by omega)
  obtain ⟨g, hg, hg2⟩ := great21_eq N x0 hcl hB2 (by omega)
  unfold lookoutlaw24_ManifestDescribes
  simp only
  rw [hg, Option.bind_some]
  cases g with
  | true => rw [cond_true, aw]; rfl
  | false =>
    have hb := hg2 rfl
    rw [cond_false]
    by_cases h1 : x1 < 0
    · rw [bz h1, aw]; rfl
    · rw [bzn h1]
      by_cases h2 : x1 > 1048576
      · rw [bz h2, aw]; rfl
      · rw [bzn h2, rbcheck_eq N x0 (by omega) hb, Option.bind_some]
        by_cases hc : bck x0 = 0
        · rw [hc, show ((0 : Int) != 0) = false from rfl, cond_false]
          by_cases h3 : x0.Id ≥ 1152921504606846976
          · rw [bz h3, aw]; rfl
          · obtain ⟨hid, hw, hz⟩ := bck_ok hc
            have hdl := desc_l0 N x1 x0 hb.1 hz x0.Chunks.length 0 N (by omega) (by omega)
            rw [Int.natCast_zero] at hdl
            rw [bzn h3, ref_eq N x0 x1 (by omega) hb, Option.bind_some, hc, if_neg (show ¬ (0 : Int) ≠ 0 from fun h => h rfl), hdl]
            unfold lookoutlaw24_ManifestDescribes_s1
            have e1 : ((refOf x0 x1).Id == x0.Id) = true := beq_self_eq_true _
            have e2 : ((refOf x0 x1).Width == x0.Width) = true := beq_self_eq_true _
            have e3 : ((refOf x0 x1).Size == x1) = true := beq_self_eq_true _
            rw [e1, e2, e3, cond_true, cond_true, cond_true, wr (x0.Id + 1) (by omega) (by omega), check_eq N _ (by omega), Option.bind_some, desc_chk hc (by omega) ⟨by omega, by omega⟩, aw]; rfl
        · rw [btt (show (bck x0 != 0) = true by rw [bne_iff_ne]; exact hc), aw]; rfl
end Go.Proofs.YtomalcfghdaghaaGreatDoor
