/- Plain laws of the manifest, 6: the reference's reading. -/
import Derived.Test.YtomalcfghdaghaaGreatDoorMn5
import Derived.Test.YtomalcfghdaghaaGreatDoorWf
set_option linter.unusedVariables false
set_option linter.unusedSimpArgs false
namespace Go.Proofs.YtomalcfghdaghaaGreatDoor
open Go Go.AM Go.Lib
def wd : List UInt8 → List ByteArray → ByteArray → List ByteArray × List UInt8 × Bool
  | [], l, _ => (l, [], false)
  | x :: r, l, s => if x = 32 then wd r (l ++ [s]) bE else if x = 10 then (l ++ [s], r, true) else wd r l (s ++ ofL [x])
theorem u8_eq (x c : UInt8) : ((x.toNat : Int) == (c.toNat : Int)) = decide (x = c) := by
  rw [Bool.eq_iff_iff, beq_iff_eq, decide_eq_true_eq]
  constructor
  · intro h; exact UInt8.toNat_inj.1 (by omega)
  · intro h; rw [h]
theorem ky_ext (s : ByteArray) (i j : Nat) : ky (s.extract i j) = ((ky s).take j).drop i := by
  simp [ky, ByteArray.data_extract, List.extract_eq_take_drop, List.drop_take]
theorem ext_one (s : ByteArray) (i : Nat) (h : i < s.size) : s.extract i (i + 1) = ofL [(ky s)[i]'(by rw [ky_len]; exact h)] := by
  apply ky_inj
  rw [ky_ext, ky_ofL]
  have hl : i < (ky s).length := by rw [ky_len]; exact h
  rw [List.take_add_one, List.getElem?_eq_getElem hl, Option.toList_some, List.drop_append]
  have h1 : ((ky s).take i).length = i := by rw [List.length_take]; omega
  rw [h1, Nat.sub_self, List.drop_zero, List.drop_eq_nil_of_le (by omega)]; rfl
theorem ext_rest (s : ByteArray) (i : Nat) : s.extract i s.size = ofL ((ky s).drop i) := by
  apply ky_inj
  rw [ky_ext, ky_ofL, List.take_of_length_le (by rw [ky_len]; exact Nat.le_refl _)]
theorem wd_small (B : Nat) : ∀ (t : List UInt8) (l : List ByteArray) (s : ByteArray), (∀ w ∈ l, w.size ≤ B) → s.size + t.length ≤ B → (∀ w ∈ (wd t l s).1, w.size ≤ B) ∧ (wd t l s).2.1.length ≤ t.length ∧ ((wd t l s).2.2 = true → (wd t l s).2.1.length < t.length)
  | [], l, s, hl, _ => ⟨hl, Nat.le_refl _, fun h => by cases h⟩
  | x :: r, l, s, hl, hs => by
    simp only [List.length_cons] at hs
    have hl2 : ∀ w ∈ l ++ [s], w.size ≤ B := fun w hw => by
      rcases List.mem_append.1 hw with h | h
      · exact hl w h
      · have := List.mem_singleton.1 h
        subst this; omega
    unfold wd
    split
    · obtain ⟨a, b, c⟩ := wd_small B r (l ++ [s]) bE hl2 (by rw [show bE.size = 0 from rfl]; omega)
      exact ⟨a, by simp only [List.length_cons]; omega, fun h => by have := c h; simp only [List.length_cons]; omega⟩
    · split
      · exact ⟨hl2, by simp, fun _ => by simp⟩
      · obtain ⟨a, b, c⟩ := wd_small B r l (s ++ ofL [x]) hl (by rw [ByteArray.size_append, ofL_size]; simp only [List.length_cons, List.length_nil]; omega)
        exact ⟨a, by simp only [List.length_cons]; omega, fun h => by have := c h; simp only [List.length_cons]; omega⟩
theorem wd_word : ∀ (w r : List UInt8) (l : List ByteArray) (s : ByteArray), (32 : UInt8) ∉ w → (10 : UInt8) ∉ w → wd (w ++ r) l s = wd r l (s ++ ofL w)
  | [], r, l, s, _, _ => by
    have : s ++ ofL [] = s := ky_inj (by rw [ky_app, ky_ofL]; simp)
    rw [this]; rfl
  | x :: w, r, l, s, h1, h2 => by
    rw [List.cons_append, wd, if_neg (show ¬ x = 32 from fun e => by subst e; exact h1 (.head _)), if_neg (show ¬ x = 10 from fun e => by subst e; exact h2 (.head _)), wd_word w r l _ (fun e => h1 (.tail _ e)) (fun e => h2 (.tail _ e))]
    congr 1
    apply ky_inj
    simp only [ky_app, ky_ofL]; simp
theorem bE_app (l : List UInt8) : bE ++ ofL l = ofL l := ky_inj (by rw [ky_app]; exact List.nil_append _)
theorem wd_line : ∀ (ns : List Int) (w : List UInt8) (f : ByteArray) (r : List UInt8) (l : List ByteArray), (32 : UInt8) ∉ w → (10 : UInt8) ∉ w → (32 : UInt8) ∉ ky f → (10 : UInt8) ∉ ky f → numsOk ns →
    wd (lnW w ns f ++ 10 :: r) l bE = (l ++ ofL w :: (ns.map (fun x => ofL (itoa x)) ++ [f]), r, true)
  | [], w, f, r, l, h1, h2, h3, h4, _ => by
    have e : lnW w [] f ++ 10 :: r = w ++ (32 :: (ky f ++ 10 :: r)) := by simp [lnW, nsT]
    rw [e, wd_word _ _ _ _ h1 h2, bE_app, wd, if_pos rfl, wd_word _ _ _ _ h3 h4, bE_app, wd, if_neg (by decide), if_pos rfl, ofL_ky]
    simp
  | x :: ns, w, f, r, l, h1, h2, h3, h4, hk => by
    have hx := hk x (.head _)
    have hd : ∀ c : UInt8, c.toNat < 48 → c ∉ itoa x := fun c hc e => by
      rw [itoa_pos hx.1] at e
      have := dd_isD _ _ e
      unfold isD at this
      omega
    have e : lnW w (x :: ns) f ++ 10 :: r = w ++ (32 :: (lnW (itoa x) ns f ++ 10 :: r)) := by simp [lnW, nsT]
    rw [e, wd_word _ _ _ _ h1 h2, bE_app, wd, if_pos rfl, wd_line ns (itoa x) f r _ (hd 32 (by decide)) (hd 10 (by decide)) h3 h4 (fun y hy => hk y (.tail _ hy))]
    simp
/-! ### Numbers -/
def numP (s : ByteArray) : Int × Bool := match nmL 0 (ky s) with
  | some v => ((v : Int), decide (0 < s.size) && decide ((v : Int) ≤ 1152921504606846976))
  | none => (0, false)
theorem wrap8 (c : UInt8) (h : 48 ≤ c.toNat) : IntKind.wrap .i64 (IntKind.wrap .u8 ((c.toNat : Int) - 48)) = ((c.toNat - 48 : Nat) : Int) := by
  have h1 := c.toNat_lt
  have : IntKind.wrap .u8 ((c.toNat : Int) - 48) = ((c.toNat - 48 : Nat) : Int) := by
    simp only [IntKind.wrap, IntKind.bits, IntKind.signed, Bool.false_and, ge_iff_le]
    have : ((c.toNat : Int) - 48) % 2 ^ 8 = ((c.toNat - 48 : Nat) : Int) := by omega
    simpa using this
  rw [this, wr _ (by omega) (by omega)]
def numsP : List Int → List ByteArray → List Int × Bool
  | acc, [] => (acc, true)
  | acc, w :: r => bif (numP w).2 then numsP (acc ++ [(numP w).1]) r else (acc, false)
theorem numsP_len : ∀ (ws : List ByteArray) (acc : List Int), (numsP acc ws).2 = true → (numsP acc ws).1.length = acc.length + ws.length
  | [], acc, _ => rfl
  | w :: r, acc, h => by
    unfold numsP at h ⊢
    cases hb : (numP w).2 with
    | false => rw [hb] at h; cases h
    | true =>
      rw [hb, cond_true] at h
      rw [cond_true, numsP_len r _ h]; simp; omega
theorem numP_itoa {x : Int} (h0 : 0 ≤ x) (h : x ≤ 1152921504606846976) : numP (ofL (itoa x)) = (x, true) := by
  unfold numP
  rw [ky_ofL, itoa_pos h0, nmL_dd x.toNat (by omega)]
  have h1 : 0 < (ofL (decDigits x.toNat)).size := by
    rw [ofL_size]; exact List.length_pos_iff.2 (dd_ne _)
  have h2 : ((x.toNat : Int)) = x := by omega
  simp only
  rw [h2, decide_eq_true h1, decide_eq_true h]; rfl
theorem numsP_itoa : ∀ (ns acc : List Int), (∀ x ∈ ns, 0 ≤ x ∧ x ≤ 1152921504606846976) → numsP acc (ns.map fun x => ofL (itoa x)) = (acc ++ ns, true)
  | [], acc, _ => by simp [numsP]
  | x :: r, acc, h => by
    have hx := h x (.head _)
    rw [List.map_cons, numsP, numP_itoa hx.1 hx.2, cond_true, numsP_itoa r _ (fun y hy => h y (.tail _ hy))]
    simp
end Go.Proofs.YtomalcfghdaghaaGreatDoor

/- Plain laws of the manifest, 7: decoding, the program's and the reference's. -/
set_option linter.unusedVariables false
set_option linter.unusedSimpArgs false
namespace Go.Proofs.YtomalcfghdaghaaGreatDoor
open Go Go.AM Go.Lib
def zM : GManifest := ⟨0, 0, 0, bE, []⟩
def smallN (ns : List Int) : Prop := ∀ x ∈ ns, 0 ≤ x ∧ x ≤ 1152921504606846976
theorem rc_small {next prev : Int} {b : GBlockRef} (hx : next ≤ 1152921504606846976) (h : rc next prev b = 0) : smallN (blkNs b) := by
  unfold rc at h
  obtain ⟨h1, h⟩ := if_zero (by decide) h
  obtain ⟨h2, h⟩ := if_zero (by decide) h
  obtain ⟨h3, h⟩ := if_zero (by decide) h
  obtain ⟨h4, h⟩ := if_zero (by decide) h
  obtain ⟨h5, h⟩ := if_zero (by decide) h
  obtain ⟨h6, h⟩ := if_zero (by decide) h
  obtain ⟨h7, h⟩ := if_zero (by decide) h
  obtain ⟨h8, h⟩ := if_zero (by decide) h
  obtain ⟨h9, h⟩ := if_zero (by decide) h
  obtain ⟨h10, h⟩ := if_zero (by decide) h
  obtain ⟨h11, h⟩ := if_zero (by decide) h
  intro x hx
  simp only [blkNs, List.mem_cons, List.not_mem_nil, or_false] at hx
  rcases hx with rfl | rfl | rfl | rfl | rfl <;> constructor <;> omega
theorem chkL_small {next : Int} (hx : next ≤ 1152921504606846976) : ∀ (bs : List GBlockRef) (prev : Int) (seen : List ByteArray), chkL next prev seen bs = 0 → ∀ b ∈ bs, smallN (blkNs b)
  | [], _, _, _, b, hb => by cases hb
  | a :: r, prev, seen, h, b, hb => by
    unfold chkL at h
    have hr : rc next prev a = 0 := by
      by_cases hc : rc next prev a = 0
      · exact hc
      · rw [if_pos hc] at h; exact h
    rw [if_neg (show ¬ rc next prev a ≠ 0 from fun e => e hr)] at h
    obtain ⟨_, h⟩ := if_zero (by decide) h
    rcases List.mem_cons.1 hb with e | e
    · subst e; exact rc_small hx hr
    · exact chkL_small hx r _ _ h b e
theorem chk_small {m : GManifest} (h : chk m = 0) : smallN (manNs m) ∧ ∀ b ∈ m.Blocks, smallN (blkNs b) := by
  unfold chk at h
  obtain ⟨h1, h⟩ := if_zero (by decide) h
  obtain ⟨h2, h⟩ := if_zero (by decide) h
  obtain ⟨h3, h⟩ := if_zero (by decide) h
  obtain ⟨h4, h⟩ := if_zero (by decide) h
  obtain ⟨h5, h⟩ := if_zero (by decide) h
  obtain ⟨h6, h⟩ := if_zero (by decide) h
  obtain ⟨h7, h⟩ := if_zero (by decide) h
  obtain ⟨h8, h⟩ := if_zero (by decide) h
  refine ⟨fun x hx => ?_, chkL_small (by omega) _ _ _ h⟩
  simp only [manNs, List.mem_cons, List.not_mem_nil, or_false] at hx
  rcases hx with rfl | rfl | rfl <;> constructor <;> omega
theorem sub_mem {ws : List ByteArray} {a b : Nat} {w : ByteArray} (h : w ∈ (ws.take b).drop a) : w ∈ ws := List.mem_of_mem_take (List.mem_of_mem_drop h)
theorem getD_mem {ws : List ByteArray} {i : Nat} (h : i < ws.length) : ws.getD i bE ∈ ws := by
  rw [List.getD_eq_getElem?_getD, List.getElem?_eq_getElem h]; exact List.getElem_mem h
theorem d3 (a b c : Int) (h0 : 0 ≤ a) (h1 : a ≤ b) (h2 : b ≤ c) : (decide ((0 : Int) ≤ a) && decide (a ≤ b) && decide (b ≤ c)) = true := by
  rw [decide_eq_true h0, decide_eq_true h1, decide_eq_true h2]; rfl
def smallM (r : GManifest × Bool) : Prop := r.1.Log.size ≤ 100000 ∧ ∀ b ∈ r.1.Blocks, b.File.size ≤ 100000
theorem smallZ (b : Bool) : smallM (zM, b) := ⟨by show bE.size ≤ _; rw [show bE.size = 0 from rfl]; omega, fun b hb => by cases hb⟩
/-! ### Decode -/
theorem sealed_pre (t : ByteArray) : (sealed t).extract 0 t.size = t := by
  apply ky_inj
  rw [ky_ext, List.drop_zero]
  unfold sealed
  rw [ky_app, ← ky_len, List.take_left']
  rfl
theorem opened_sealed (t : ByteArray) : opened (sealed t) = some t := by
  have h := seal_size t
  have h4 : (sealed t).size - 4 = t.size := by omega
  unfold opened
  rw [h4, sealed_pre, if_pos ⟨by omega, rfl⟩]
theorem opened_some {s t : ByteArray} (h : opened s = some t) : s = sealed t := by
  unfold opened at h
  split at h
  · rename_i hc
    cases h
    exact hc.2.symm
  · cases h
theorem sealed_inj {a b : ByteArray} (h : sealed a = sealed b) : a = b := by
  have := opened_sealed a
  rw [h, opened_sealed] at this
  exact (Option.some.inj this).symm
theorem dec_sealed_p (n : Nat) (m : GManifest) (hc : chk m = 0) (hn : 200000 ≤ n) : manifest_Decode n (sealed (ofL (txt m))) = some (m, 0) := by
  obtain ⟨k, rfl⟩ : ∃ k, n = k + 1 := ⟨n - 1, by omega⟩
  have hg := chk_good hc
  have hlen := txt_len hg
  have hsz : (ofL (txt m)).size = (txt m).length := ofL_size _
  have hss := seal_size (ofL (txt m))
  unfold manifest_Decode
  simp only
  rw [open_eq k _ (by omega) (by omega), Option.bind_some, opened_sealed]
  simp only
  rw [show ((0 : Int) != 0) = false from rfl, cond_false, parse_can k m hg (by omega), Option.bind_some]
  simp only [Bool.not_true, cond_false]
  rw [encode_eq k m (by omega), Option.bind_some, encd, if_neg (show ¬ chk m ≠ 0 from fun h => h hc)]
  simp only
  rw [show ((0 : Int) != 0) = false from rfl, cond_false, sNe_eq, decide_eq_true rfl]; rfl
end Go.Proofs.YtomalcfghdaghaaGreatDoor

/- Plain laws of the manifest, 8: the two laws. -/
set_option linter.unusedVariables false
set_option linter.unusedSimpArgs false
namespace Go.Proofs.YtomalcfghdaghaaGreatDoor
open Go Go.AM Go.Lib
theorem same_l0 (n : Nat) (m : GManifest) (hl : m.Blocks.length ≤ 1000) : ∀ (k i f : Nat), i + k = m.Blocks.length → k < f → lookoutref24_Same_l0 n m m f (i : Int) = some true
  | k, i, 0, _, h => by omega
  | 0, i, f + 1, h, _ => by
    have h1 : ¬ ((i : Int) < (m.Blocks.length : Int)) := by omega
    unfold lookoutref24_Same_l0
    rw [bzn h1]
  | k + 1, i, f + 1, h, h1 => by
    have hx : i < m.Blocks.length := by omega
    have h2 : ((i : Int) < (m.Blocks.length : Int)) := by omega
    unfold lookoutref24_Same_l0
    rw [bz h2, dec_in i _ hx, cond_true, cond_true, toNat_c]
    simp only [beqS, decide_true, beq_self_eq_true, Bool.and_self, Bool.not_true, cond_false]
    rw [wr1 i (by omega)]
    exact same_l0 n m hl k (i + 1) f (by omega) (by omega)
theorem same_eq (n : Nat) (m : GManifest) (hl : m.Blocks.length ≤ 1000) (hn : 1100 ≤ n) : lookoutref24_Same n m m = some true := by
  obtain ⟨k, rfl⟩ : ∃ k, n = k + 1 := ⟨n - 1, by omega⟩
  unfold lookoutref24_Same
  simp only [bne_self_eq_false, cond_false, sNe_eq, decide_true, Bool.not_true]
  exact same_l0 k m hl m.Blocks.length 0 k (by omega) (by omega)
/-! ### The sample -/
def smp : GManifest := ⟨1, 3, 0, (⟨#[119, 97, 108, 46, 49]⟩ : ByteArray), [(⟨2, 0, (⟨#[98, 108, 111, 99, 107, 46, 50]⟩ : ByteArray), 5, 9, 100⟩ : GBlockRef)]⟩
def smpT : List UInt8 := [109, 97, 110, 105, 102, 101, 115, 116, 32, 49, 32, 51, 32, 48, 32, 119, 97, 108, 46, 49, 10, 98, 108, 111, 99, 107, 32, 50, 32, 48, 32, 53, 32, 57, 32, 49, 48, 48, 32, 98, 108, 111, 99, 107, 46, 50, 10]
theorem smp_chk : chk smp = 0 := by kernel_rfl
theorem smp_txt : txt smp = smpT := by
  have h0 : itoa 0 = [48] := by show decDigits 0 = _; rw [decDigits_one (by decide)]; rfl
  have h1 : itoa 1 = [49] := by show decDigits 1 = _; rw [decDigits_one (by decide)]; rfl
  have h2 : itoa 2 = [50] := by show decDigits 2 = _; rw [decDigits_one (by decide)]; rfl
  have h3 : itoa 3 = [51] := by show decDigits 3 = _; rw [decDigits_one (by decide)]; rfl
  have h5 : itoa 5 = [53] := by show decDigits 5 = _; rw [decDigits_one (by decide)]; rfl
  have h9 : itoa 9 = [57] := by show decDigits 9 = _; rw [decDigits_one (by decide)]; rfl
  have h100 : itoa 100 = [49, 48, 48] := by
    show decDigits 100 = _
    rw [decDigits, dif_neg (by decide), show 100 / 10 = 10 from rfl, decDigits_two (by decide) (by decide)]; rfl
  simp only [txt, smp, manNs, blksT, blkT, blkNs, lnT, lnW, nsT, h0, h1, h2, h3, h5, h9, h100]
  rfl
theorem awake_eq (n : Nat) (hn : 200100 ≤ n) : lookoutlaw24_awake n = some true := by
  obtain ⟨k, rfl⟩ : ∃ k, n = k + 1 := ⟨n - 1, by omega⟩
  obtain ⟨j, rfl⟩ : ∃ j, k = j + 1 := ⟨k - 1, by omega⟩
  have hs : lookoutlaw24_sample (j + 1) = some smp := rfl
  have hsz : (ofL (txt smp)).size = 47 := by rw [smp_txt, ofL_size]; rfl
  have hss := seal_size (ofL (txt smp))
  have hpre := sealed_pre (ofL (txt smp))
  rw [hsz] at hpre hss
  unfold lookoutlaw24_awake
  simp only
  rw [hs, Option.bind_some, encode_eq (j + 1) smp (by omega), Option.bind_some, encd, if_neg (show ¬ chk smp ≠ 0 from fun h => h smp_chk)]
  simp only
  rw [dec_sealed_p (j + 1) smp smp_chk (by omega), Option.bind_some]
  simp only
  have e51 : (((sealed (ofL (txt smp))).size : Int) == 51) = true := by rw [beq_iff_eq, hss]; rfl
  have e0 : ((0 : Int) == 0) = true := rfl
  rw [e0, cond_true, cond_true, e51, cond_true, btt (d3 0 47 _ (by omega) (by omega) (by omega)), hpre]
  have et : sEq (ofL (txt smp)) (⟨#[109, 97, 110, 105, 102, 101, 115, 116, 32, 49, 32, 51, 32, 48, 32, 119, 97, 108, 46, 49, 10, 98, 108, 111, 99, 107, 32, 50, 32, 48, 32, 53, 32, 57, 32, 49, 48, 48, 32, 98, 108, 111, 99, 107, 46, 50, 10]⟩ : ByteArray) = true := by
    rw [sEq_eq, smp_txt]; exact decide_eq_true rfl
  rw [et, cond_true, Option.bind_some, same_eq (j + 1) smp (by decide) (by omega)]
  rfl
theorem files_bound : ∀ bs : List GBlockRef, ∃ B : Nat, ∀ b ∈ bs, b.File.size ≤ B
  | [] => ⟨0, fun b hb => by cases hb⟩
  | a :: r => by
    obtain ⟨B, h⟩ := files_bound r
    exact ⟨B + a.File.size, fun b hb => by
      rcases List.mem_cons.1 hb with e | e
      · subst e; omega
      · have := h b e; omega⟩
theorem zM_len : zM.Blocks.length ≤ 1000 := by decide
theorem good_len {m : GManifest} (h : chk m = 0) : m.Blocks.length ≤ 1000 := by have := (chk_good h).2.2.1; omega
end Go.Proofs.YtomalcfghdaghaaGreatDoor
