/- Plain laws of the manifest, 6: the reference's reading. -/
import Derived.Test.YtomalcfghdaghaaDoorMn5
set_option linter.unusedVariables false
set_option linter.unusedSimpArgs false
namespace Go.Proofs.YtomalcfghdaghaaDoor
open Go Go.AM Go.Lib
def wd : List UInt8 → List ByteArray → ByteArray → List ByteArray × List UInt8 × Bool
  | [], l, _ => (l, [], false)
  | x :: r, l, s => if x = 32 then wd r (l ++ [s]) bE else if x = 10 then (l ++ [s], r, true) else wd r l (s ++ ofL [x])
theorem u8_eq (x c : UInt8) : ((x.toNat : Int) == (c.toNat : Int)) = decide (x = c) := by
  rw [Bool.eq_iff_iff, beq_iff_eq, decide_eq_true_eq]
  constructor
  · intro h; exact UInt8.toNat_inj.1 (by omega)
  · intro h; rw [h]
theorem ky_ext (s : ByteArray) (i j : Nat) : ky (s.extract i j) = ((ky s).take j).drop i := by
  simp [ky, ByteArray.data_extract, List.extract_eq_take_drop, List.drop_take]
theorem ext_one (s : ByteArray) (i : Nat) (h : i < s.size) : s.extract i (i + 1) = ofL [(ky s)[i]'(by rw [ky_len]; exact h)] := by
  apply ky_inj
  rw [ky_ext, ky_ofL]
  have hl : i < (ky s).length := by rw [ky_len]; exact h
  rw [List.take_add_one, List.getElem?_eq_getElem hl, Option.toList_some, List.drop_append]
  have h1 : ((ky s).take i).length = i := by rw [List.length_take]; omega
  rw [h1, Nat.sub_self, List.drop_zero, List.drop_eq_nil_of_le (by omega)]; rfl
theorem ext_rest (s : ByteArray) (i : Nat) : s.extract i s.size = ofL ((ky s).drop i) := by
  apply ky_inj
  rw [ky_ext, ky_ofL, List.take_of_length_le (by rw [ky_len]; exact Nat.le_refl _)]
theorem words_l0 (n : Nat) (S : ByteArray) (hS : S.size ≤ 100000) : ∀ (k i m : Nat) (l : List ByteArray) (s : ByteArray), i + k = S.size → k < m → l.length ≤ i → s.size ≤ i →
    lookoutref24_words_l0 n S m l s (i : Int) = some ((wd ((ky S).drop i) l s).1, ofL (wd ((ky S).drop i) l s).2.1, (wd ((ky S).drop i) l s).2.2)
  | k, i, 0, l, s, _, h, _, _ => by omega
  | 0, i, m + 1, l, s, h, _, _, _ => by
    have h1 : ¬ ((i : Int) < (S.size : Int)) := by omega
    unfold lookoutref24_words_l0
    rw [bzn h1, List.drop_eq_nil_of_le (by rw [ky_len]; omega)]; rfl
  | k + 1, i, m + 1, l, s, h, h1, hl, hs => by
    have hx : i < S.size := by omega
    have h2 : ((i : Int) < (S.size : Int)) := by omega
    have ih := fun l' s' => words_l0 n S hS k (i + 1) m l' s' (by omega) (by omega)
    unfold lookoutref24_words_l0
    rw [bz h2, dec_in i _ hx, cond_true, toNat_c, bt_get S i hx, drop_ky S i hx]
    have e1 := ext_one S i hx
    have e2 := ext_rest S (i + 1)
    have hw := wr1 i (by omega)
    have hbt := bt_get S i hx
    generalize (ky S)[i]'(by rw [ky_len]; exact hx) = x at e1 hbt
    have c1 : ((x.toNat : Int) == 32) = decide (x = 32) := u8_eq x 32
    have c2 : ((x.toNat : Int) == 10) = decide (x = 10) := u8_eq x 10
    have g1 : (true && (decide ((l.length + 1) * 16 ≤ 140737488355328) && decide (l.length + 1 ≤ 9223372036854775807))) = true := app_ok (b := 16) (by omega) (by omega)
    rw [c1, c2, g1]
    simp only [cond_true]
    rw [wd]
    by_cases h32 : x = 32
    · subst h32
      rw [decide_eq_true rfl, cond_true, if_pos rfl]
      unfold lookoutref24_words_s1
      rw [dec_in i _ hx, cond_true, toNat_c, hbt]
      rw [show (((32 : UInt8).toNat : Int) == 10) = false from rfl, cond_false, hw]
      exact ih _ _ (by simp; omega) (by rw [show bE.size = 0 from rfl]; omega)
    · rw [decide_eq_false h32, cond_false, if_neg h32]
      by_cases h10 : x = 10
      · subst h10
        rw [decide_eq_true rfl, cond_true, if_pos rfl]
        unfold lookoutref24_words_s1
        rw [dec_in i _ hx, cond_true, toNat_c, hbt]
        rw [show (((10 : UInt8).toNat : Int) == 10) = true from rfl, cond_true, hw, dec3 (i + 1) S.size S.size (by omega) (by omega), cond_true, toNat_c, e2]
      · rw [decide_eq_false h10, cond_false, if_neg h10, hw, dec3 i (i + 1) S.size (by omega) (by omega), cond_true, toNat_c, e1]
        have hsz : s.size + (ofL [x]).size ≤ 9223372036854775807 := by rw [ofL_size]; simp only [List.length_cons, List.length_nil]; omega
        rw [bz hsz]
        unfold lookoutref24_words_s1
        rw [dec_in i _ hx, cond_true, toNat_c, hbt, c2, decide_eq_false h10, cond_false, hw]
        exact ih _ _ (by omega) (by rw [ByteArray.size_append, ofL_size]; simp only [List.length_cons, List.length_nil]; omega)
theorem rwords_eq (n : Nat) (S : ByteArray) (hS : S.size ≤ 100000) (hn : S.size + 3 ≤ n) : lookoutref24_words n S = some ((wd (ky S) [] bE).1, ofL (wd (ky S) [] bE).2.1, (wd (ky S) [] bE).2.2) := by
  obtain ⟨m, rfl⟩ : ∃ m, n = m + 1 := ⟨n - 1, by omega⟩
  unfold lookoutref24_words
  have := words_l0 m S hS S.size 0 m [] bE (by omega) (by omega) (by simp) (by rw [show bE.size = 0 from rfl]; omega)
  rw [Int.natCast_zero, List.drop_zero] at this
  exact this
theorem wd_small (B : Nat) : ∀ (t : List UInt8) (l : List ByteArray) (s : ByteArray), (∀ w ∈ l, w.size ≤ B) → s.size + t.length ≤ B → (∀ w ∈ (wd t l s).1, w.size ≤ B) ∧ (wd t l s).2.1.length ≤ t.length ∧ ((wd t l s).2.2 = true → (wd t l s).2.1.length < t.length)
  | [], l, s, hl, _ => ⟨hl, Nat.le_refl _, fun h => by cases h⟩
  | x :: r, l, s, hl, hs => by
    simp only [List.length_cons] at hs
    have hl2 : ∀ w ∈ l ++ [s], w.size ≤ B := fun w hw => by
      rcases List.mem_append.1 hw with h | h
      · exact hl w h
      · have := List.mem_singleton.1 h
        subst this; omega
    unfold wd
    split
    · obtain ⟨a, b, c⟩ := wd_small B r (l ++ [s]) bE hl2 (by rw [show bE.size = 0 from rfl]; omega)
      exact ⟨a, by simp only [List.length_cons]; omega, fun h => by have := c h; simp only [List.length_cons]; omega⟩
    · split
      · exact ⟨hl2, by simp, fun _ => by simp⟩
      · obtain ⟨a, b, c⟩ := wd_small B r l (s ++ ofL [x]) hl (by rw [ByteArray.size_append, ofL_size]; simp only [List.length_cons, List.length_nil]; omega)
        exact ⟨a, by simp only [List.length_cons]; omega, fun h => by have := c h; simp only [List.length_cons]; omega⟩
theorem wd_word : ∀ (w r : List UInt8) (l : List ByteArray) (s : ByteArray), (32 : UInt8) ∉ w → (10 : UInt8) ∉ w → wd (w ++ r) l s = wd r l (s ++ ofL w)
  | [], r, l, s, _, _ => by
    have : s ++ ofL [] = s := ky_inj (by rw [ky_app, ky_ofL]; simp)
    rw [this]; rfl
  | x :: w, r, l, s, h1, h2 => by
    rw [List.cons_append, wd, if_neg (show ¬ x = 32 from fun e => by subst e; exact h1 (.head _)), if_neg (show ¬ x = 10 from fun e => by subst e; exact h2 (.head _)), wd_word w r l _ (fun e => h1 (.tail _ e)) (fun e => h2 (.tail _ e))]
    congr 1
    apply ky_inj
    simp only [ky_app, ky_ofL]; simp
theorem bE_app (l : List UInt8) : bE ++ ofL l = ofL l := ky_inj (by rw [ky_app]; exact List.nil_append _)
theorem wd_line : ∀ (ns : List Int) (w : List UInt8) (f : ByteArray) (r : List UInt8) (l : List ByteArray), (32 : UInt8) ∉ w → (10 : UInt8) ∉ w → (32 : UInt8) ∉ ky f → (10 : UInt8) ∉ ky f → numsOk ns →
    wd (lnW w ns f ++ 10 :: r) l bE = (l ++ ofL w :: (ns.map (fun x => ofL (itoa x)) ++ [f]), r, true)
  | [], w, f, r, l, h1, h2, h3, h4, _ => by
    have e : lnW w [] f ++ 10 :: r = w ++ (32 :: (ky f ++ 10 :: r)) := by simp [lnW, nsT]
    rw [e, wd_word _ _ _ _ h1 h2, bE_app, wd, if_pos rfl, wd_word _ _ _ _ h3 h4, bE_app, wd, if_neg (by decide), if_pos rfl, ofL_ky]
    simp
  | x :: ns, w, f, r, l, h1, h2, h3, h4, hk => by
    have hx := hk x (.head _)
    have hd : ∀ c : UInt8, c.toNat < 48 → c ∉ itoa x := fun c hc e => by
      rw [itoa_pos hx.1] at e
      have := dd_isD _ _ e
      unfold isD at this
      omega
    have e : lnW w (x :: ns) f ++ 10 :: r = w ++ (32 :: (lnW (itoa x) ns f ++ 10 :: r)) := by simp [lnW, nsT]
    rw [e, wd_word _ _ _ _ h1 h2, bE_app, wd, if_pos rfl, wd_line ns (itoa x) f r _ (hd 32 (by decide)) (hd 10 (by decide)) h3 h4 (fun y hy => hk y (.tail _ hy))]
    simp
/-! ### Numbers -/
def numP (s : ByteArray) : Int × Bool := match nmL 0 (ky s) with
  | some v => ((v : Int), decide (0 < s.size) && decide ((v : Int) ≤ 1152921504606846976))
  | none => (0, false)
theorem wrap8 (c : UInt8) (h : 48 ≤ c.toNat) : IntKind.wrap .i64 (IntKind.wrap .u8 ((c.toNat : Int) - 48)) = ((c.toNat - 48 : Nat) : Int) := by
  have h1 := c.toNat_lt
  have : IntKind.wrap .u8 ((c.toNat : Int) - 48) = ((c.toNat - 48 : Nat) : Int) := by
    simp only [IntKind.wrap, IntKind.bits, IntKind.signed, Bool.false_and, ge_iff_le]
    have : ((c.toNat : Int) - 48) % 2 ^ 8 = ((c.toNat - 48 : Nat) : Int) := by omega
    simpa using this
  rw [this, wr _ (by omega) (by omega)]
theorem number_l0 (n : Nat) (s : ByteArray) (hs : s.size ≤ 100000) : ∀ (k i m acc : Nat), i + k = s.size → k < m → acc ≤ 1152921504606846980 →
    lookoutref24_number_l0 n s m (acc : Int) (i : Int) = match nmL acc ((ky s).drop i) with | some v => lookoutref24_number_s1 n s (v : Int) | none => some (0, false)
  | k, i, 0, acc, _, h, _ => by omega
  | 0, i, m + 1, acc, h, _, _ => by
    have h1 : ¬ ((i : Int) < (s.size : Int)) := by omega
    unfold lookoutref24_number_l0
    rw [bzn h1, List.drop_eq_nil_of_le (by rw [ky_len]; omega)]; rfl
  | k + 1, i, m + 1, acc, h, h1, ha => by
    have hx : i < s.size := by omega
    have h2 : ((i : Int) < (s.size : Int)) := by omega
    unfold lookoutref24_number_l0
    rw [bz h2, dec_in i _ hx, cond_true, toNat_c, bt_get s i hx, drop_ky s i hx, nmL]
    generalize (ky s)[i]'(by rw [ky_len]; exact hx) = x
    simp only [cond_true]
    by_cases h48 : x.toNat < 48
    · rw [bz (show (x.toNat : Int) < 48 by omega), if_pos (.inl h48)]
    · rw [bzn (show ¬ (x.toNat : Int) < 48 by omega)]
      by_cases h57 : 57 < x.toNat
      · rw [bz (show (x.toNat : Int) > 57 by omega), if_pos (.inr h57)]
      · rw [bzn (show ¬ (x.toNat : Int) > 57 by omega), if_neg (by omega)]
        by_cases hac : 115292150460684697 < acc
        · rw [bz (show (acc : Int) > 115292150460684697 by omega), if_pos hac]
        · rw [bzn (show ¬ (acc : Int) > 115292150460684697 by omega), if_neg hac, wrap8 x (by omega), wr ((acc : Int) * 10) (by omega) (by omega), wr _ (by omega) (by omega), wr1 i (by omega)]
          have ih := number_l0 n s hs k (i + 1) m (acc * 10 + (x.toNat - 48)) (by omega) (by omega) (by omega)
          have e : (acc : Int) * 10 + ((x.toNat - 48 : Nat) : Int) = ((acc * 10 + (x.toNat - 48) : Nat) : Int) := by omega
          rw [e, ih]
theorem number_eq (n : Nat) (s : ByteArray) (hs : s.size ≤ 100000) (hn : s.size + 3 ≤ n) : lookoutref24_number n s = some (numP s) := by
  obtain ⟨m, rfl⟩ : ∃ m, n = m + 1 := ⟨n - 1, by omega⟩
  unfold lookoutref24_number
  have := number_l0 m s hs s.size 0 m 0 (by omega) (by omega) (by omega)
  rw [Int.natCast_zero, List.drop_zero] at this
  refine this.trans ?_
  unfold numP
  cases nmL 0 (ky s) with
  | none => rfl
  | some v =>
    unfold lookoutref24_number_s1
    simp only
    by_cases h0 : 0 < s.size
    · rw [bz (show (s.size : Int) > 0 by omega), decide_eq_true h0, Bool.true_and]
    · rw [bzn (show ¬ (s.size : Int) > 0 by omega), decide_eq_false h0, Bool.false_and]
def numsP : List Int → List ByteArray → List Int × Bool
  | acc, [] => (acc, true)
  | acc, w :: r => bif (numP w).2 then numsP (acc ++ [(numP w).1]) r else (acc, false)
theorem numbers_l0 (n : Nat) (ws : List ByteArray) (hw : ∀ w ∈ ws, w.size ≤ 100000) (hl : ws.length ≤ 1000) (hn : 100003 ≤ n) : ∀ (k i m : Nat) (acc : List Int), i + k = ws.length → k < m → acc.length ≤ i →
    lookoutref24_numbers_l0 n ws m acc (i : Int) = some (numsP acc (ws.drop i))
  | k, i, 0, acc, _, h, _ => by omega
  | 0, i, m + 1, acc, h, _, _ => by
    have h1 : ¬ ((i : Int) < (ws.length : Int)) := by omega
    unfold lookoutref24_numbers_l0
    rw [bzn h1, List.drop_eq_nil_of_le (by omega)]; rfl
  | k + 1, i, m + 1, acc, h, h1, ha => by
    have hx : i < ws.length := by omega
    have h2 : ((i : Int) < (ws.length : Int)) := by omega
    have hd : ws.drop i = ws.getD i bE :: ws.drop (i + 1) := by
      rw [List.drop_eq_getElem_cons hx, List.getD_eq_getElem?_getD, List.getElem?_eq_getElem hx]; rfl
    have hsz := hw (ws.getD i bE) (by rw [List.getD_eq_getElem?_getD, List.getElem?_eq_getElem hx]; exact List.getElem_mem hx)
    unfold lookoutref24_numbers_l0
    rw [bz h2, dec_in i _ hx, cond_true, toNat_c, number_eq n _ hsz (by omega), Option.bind_some, hd, numsP]
    cases (numP (ws.getD i bE)).2 with
    | false => rfl
    | true =>
      have g1 : (true && (decide ((acc.length + 1) * 8 ≤ 140737488355328) && decide (acc.length + 1 ≤ 9223372036854775807))) = true := app_ok (b := 8) (by omega) (by omega)
      rw [Bool.not_true, cond_false, g1, cond_true, cond_true, wr1 i (by omega)]
      exact numbers_l0 n ws hw hl hn k (i + 1) m _ (by omega) (by omega) (by simp; omega)
theorem numbers_eq (n : Nat) (ws : List ByteArray) (hw : ∀ w ∈ ws, w.size ≤ 100000) (hl : ws.length ≤ 1000) (hn : 100010 ≤ n) : lookoutref24_numbers n ws = some (numsP [] ws) := by
  obtain ⟨m, rfl⟩ : ∃ m, n = m + 1 := ⟨n - 1, by omega⟩
  unfold lookoutref24_numbers
  have := numbers_l0 m ws hw hl (by omega) ws.length 0 m [] (by omega) (by omega) (by simp)
  rw [Int.natCast_zero, List.drop_zero] at this
  exact this
theorem numsP_len : ∀ (ws : List ByteArray) (acc : List Int), (numsP acc ws).2 = true → (numsP acc ws).1.length = acc.length + ws.length
  | [], acc, _ => rfl
  | w :: r, acc, h => by
    unfold numsP at h ⊢
    cases hb : (numP w).2 with
    | false => rw [hb] at h; cases h
    | true =>
      rw [hb, cond_true] at h
      rw [cond_true, numsP_len r _ h]; simp; omega
theorem numP_itoa {x : Int} (h0 : 0 ≤ x) (h : x ≤ 1152921504606846976) : numP (ofL (itoa x)) = (x, true) := by
  unfold numP
  rw [ky_ofL, itoa_pos h0, nmL_dd x.toNat (by omega)]
  have h1 : 0 < (ofL (decDigits x.toNat)).size := by
    rw [ofL_size]; exact List.length_pos_iff.2 (dd_ne _)
  have h2 : ((x.toNat : Int)) = x := by omega
  simp only
  rw [h2, decide_eq_true h1, decide_eq_true h]; rfl
theorem numsP_itoa : ∀ (ns acc : List Int), (∀ x ∈ ns, 0 ≤ x ∧ x ≤ 1152921504606846976) → numsP acc (ns.map fun x => ofL (itoa x)) = (acc ++ ns, true)
  | [], acc, _ => by simp [numsP]
  | x :: r, acc, h => by
    have hx := h x (.head _)
    rw [List.map_cons, numsP, numP_itoa hx.1 hx.2, cond_true, numsP_itoa r _ (fun y hy => h y (.tail _ hy))]
    simp
end Go.Proofs.YtomalcfghdaghaaDoor
