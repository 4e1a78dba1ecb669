/- Plain laws of the manifest, 5: what is encoded, by the program and by the reference. -/
import Derived.Test.YtomalcfghdaghaaDoorMn4
set_option linter.unusedVariables false
set_option linter.unusedSimpArgs false
namespace Go.Proofs.YtomalcfghdaghaaDoor
open Go Go.AM Go.Lib
theorem allB_all (s : ByteArray) : ∀ (k i : Nat), i + k = s.size → allB s i k = true → ∀ c ∈ (ky s).drop i, okB (c.toNat : Int) = true
  | 0, i, h, _, c, hc => by
    rw [List.drop_eq_nil_of_le (by rw [ky_len]; omega)] at hc; cases hc
  | k + 1, i, h, ha, c, hc => by
    have hi : i < s.size := by omega
    unfold allB at ha
    rw [Bool.and_eq_true] at ha
    rw [drop_ky s i hi] at hc
    rcases List.mem_cons.1 hc with e | e
    · subst e
      have := ha.1
      rw [bt_get s i hi] at this; exact this
    · exact allB_all s k (i + 1) (by omega) ha.2 c e
theorem nmOk_good {s : ByteArray} (h : nmOk s = true) : goodF s := by
  unfold nmOk isNm at h
  simp only [Bool.and_eq_true, decide_eq_true_eq] at h
  have ha := allB_all s s.size 0 (by omega) h.1.1.2
  rw [List.drop_zero] at ha
  refine ⟨fun e => ?_, fun e => ?_, h.1.1.1.2⟩
  · exact absurd (ha _ e) (by decide)
  · exact absurd (ha _ e) (by decide)
theorem if_zero {c : Prop} [Decidable c] {a x : Int} (ha : a ≠ 0) (h : (if c then a else x) = 0) : ¬ c ∧ x = 0 := by
  by_cases hc : c
  · rw [if_pos hc] at h; exact absurd h ha
  · rw [if_neg hc] at h; exact ⟨hc, h⟩
theorem rc_good {next prev : Int} {b : GBlockRef} (hx : next ≤ 1152921504606846976) (h : rc next prev b = 0) : goodB b := by
  unfold rc at h
  obtain ⟨h1, h⟩ := if_zero (by decide) h
  obtain ⟨h2, h⟩ := if_zero (by decide) h
  obtain ⟨h3, h⟩ := if_zero (by decide) h
  obtain ⟨h4, h⟩ := if_zero (by decide) h
  obtain ⟨h5, h⟩ := if_zero (by decide) h
  obtain ⟨h6, h⟩ := if_zero (by decide) h
  obtain ⟨h7, h⟩ := if_zero (by decide) h
  obtain ⟨h8, h⟩ := if_zero (by decide) h
  obtain ⟨h9, h⟩ := if_zero (by decide) h
  obtain ⟨h10, h⟩ := if_zero (by decide) h
  obtain ⟨h11, h⟩ := if_zero (by decide) h
  have hn : nmOk b.File = true := by
    by_cases hc : nmOk b.File = true
    · exact hc
    · rw [if_neg hc] at h; exact absurd h (by decide)
  refine ⟨fun x hx => ?_, nmOk_good hn⟩
  simp only [blkNs, List.mem_cons, List.not_mem_nil, or_false] at hx
  rcases hx with rfl | rfl | rfl | rfl | rfl <;> constructor <;> omega
theorem chkL_good {next : Int} (hx : next ≤ 1152921504606846976) : ∀ (bs : List GBlockRef) (prev : Int) (seen : List ByteArray), chkL next prev seen bs = 0 → ∀ b ∈ bs, goodB b
  | [], _, _, _, b, hb => by cases hb
  | a :: r, prev, seen, h, b, hb => by
    unfold chkL at h
    have hr : rc next prev a = 0 := by
      by_cases hc : rc next prev a = 0
      · exact hc
      · rw [if_pos hc] at h; exact h
    rw [if_neg (show ¬ rc next prev a ≠ 0 from fun e => e hr)] at h
    obtain ⟨_, h⟩ := if_zero (by decide) h
    rcases List.mem_cons.1 hb with e | e
    · subst e; exact rc_good hx hr
    · exact chkL_good hx r _ _ h b e
theorem chk_good {m : GManifest} (h : chk m = 0) : goodM m := by
  unfold chk at h
  obtain ⟨h1, h⟩ := if_zero (by decide) h
  obtain ⟨h2, h⟩ := if_zero (by decide) h
  obtain ⟨h3, h⟩ := if_zero (by decide) h
  obtain ⟨h4, h⟩ := if_zero (by decide) h
  obtain ⟨h5, h⟩ := if_zero (by decide) h
  obtain ⟨h6, h⟩ := if_zero (by decide) h
  obtain ⟨h7, h⟩ := if_zero (by decide) h
  obtain ⟨h8, h⟩ := if_zero (by decide) h
  have hn : nmOk m.Log = true := by cases hc : nmOk m.Log with
    | true => rfl
    | false => exact absurd hc h7
  refine ⟨fun x hx => ?_, nmOk_good hn, by omega, chkL_good (by omega) _ _ _ h⟩
  simp only [manNs, List.mem_cons, List.not_mem_nil, or_false] at hx
  rcases hx with rfl | rfl | rfl <;> constructor <;> omega
/-! ### The program's -/
theorem encode_l0 (n : Nat) (m : GManifest) (hn : 20 ≤ n) (hl : m.Blocks.length ≤ 100) (hg : ∀ b ∈ m.Blocks, goodB b) : ∀ (k i f : Nat) (s : ByteArray), i + k = m.Blocks.length → k < f → s.size + 200 * k ≤ 100000 →
    manifest_Encode_l0 n m f (m.Blocks.length : Int) (i : Int) s = manifest_Encode_s1 n (s ++ ofL (blksT (m.Blocks.drop i)))
  | k, i, 0, s, _, h, _ => by omega
  | 0, i, f + 1, s, h, _, _ => by
    have h1 : ¬ ((i : Int) < (m.Blocks.length : Int)) := by omega
    have hd : m.Blocks.drop i = [] := List.drop_eq_nil_of_le (by omega)
    have he : s ++ ofL (blksT []) = s := ky_inj (by rw [ky_app, ky_ofL]; simp [blksT])
    unfold manifest_Encode_l0
    rw [bzn h1, hd, he]
  | k + 1, i, f + 1, s, h, h1, hs => by
    have hx : i < m.Blocks.length := by omega
    have h2 : ((i : Int) < (m.Blocks.length : Int)) := by omega
    have hgb : goodB (m.Blocks.getD i dGBlockRef) := hg _ (by rw [List.getD_eq_getElem?_getD, List.getElem?_eq_getElem hx]; exact List.getElem_mem hx)
    unfold manifest_Encode_l0
    rw [bz h2, dec_in i _ hx, cond_true, toNat_c, getD_dropB hx]
    generalize m.Blocks.getD i dGBlockRef = b at hgb
    have hlen := blkT_len hgb
    have hfs := hgb.2.2.2
    have e : manifest_writeLine n (⟨#[98, 108, 111, 99, 107]⟩ : ByteArray) [b.Id, b.Width, b.MinTime, b.MaxTime, b.Size] b.File s = some (s ++ ofL (blkT b)) := writeLine_eq n blkL (blkNs b) b.File s (by have : (blkNs b).length = 5 := rfl; omega) hgb.1 (by have : (blkNs b).length = 5 := rfl; omega) (by omega) (by have : blkL.length = 5 := rfl; omega)
    rw [e, Option.bind_some, wr1 i (by omega), encode_l0 n m hn hl hg k (i + 1) f _ (by omega) (by omega) (by rw [ByteArray.size_append, ofL_size]; omega)]
    exact congrArg (manifest_Encode_s1 n) (ky_inj (by simp only [ky_app, ky_ofL, blksT, List.append_assoc]))
def encd (m : GManifest) : ByteArray × Int := if chk m ≠ 0 then (bE, 1) else (sealed (ofL (txt m)), 0)
theorem man_len {m : GManifest} (hg : goodM m) : (lnT manL (manNs m) m.Log).length ≤ 200 := by
  have hl1 := lnT_len manL (manNs m) m.Log hg.1
  have hls := hg.2.1.2.2
  have h1 : manL.length = 8 := rfl
  have h2 : (manNs m).length = 3 := rfl
  omega
theorem man_write (k : Nat) (m : GManifest) (hg : goodM m) (hn : 30 ≤ k) : manifest_writeLine k (⟨#[109, 97, 110, 105, 102, 101, 115, 116]⟩ : ByteArray) [m.Version, m.Next, m.RawFrom] m.Log bE = some (ofL (lnT manL (manNs m) m.Log)) := by
  have hls := hg.2.1.2.2
  have h1 : manL.length = 8 := rfl
  have h2 : (manNs m).length = 3 := rfl
  have h3 : bE.size = 0 := rfl
  have e := writeLine_eq k manL (manNs m) m.Log bE (by omega) hg.1 (by omega) (by omega) (by omega)
  have hbe : ∀ l : List UInt8, bE ++ ofL l = ofL l := fun l => ky_inj (by rw [ky_app]; exact List.nil_append _)
  rw [hbe] at e
  exact e
theorem encode_s1 (k : Nat) (m : GManifest) (hg : goodM m) (hn : 29999 ≤ k) : manifest_Encode_s1 k (ofL (txt m)) = some (sealed (ofL (txt m)), 0) := by
  have hlen := txt_len hg
  have hsz : (ofL (txt m)).size = (txt m).length := ofL_size _
  have h1 : 1 ≤ (ofL (txt m)).size := by
    rw [hsz]; simp only [txt, lnT, List.length_append, List.length_cons]; omega
  unfold manifest_Encode_s1
  have es : bString k (ofL (txt m)) = some (ofL (txt m)) := by
    obtain ⟨j, rfl⟩ : ∃ j, k = j + 1 := ⟨k - 1, by omega⟩
    unfold bString; simp only [decide_eq_true h1, cond_true]
  rw [es, Option.bind_some, seal_eq k _ (by omega) (by omega), Option.bind_some]
theorem encode_eq (n : Nat) (m : GManifest) (hn : 30000 ≤ n) : manifest_Encode n m = some (encd m) := by
  obtain ⟨k, rfl⟩ : ∃ k, n = k + 1 := ⟨n - 1, by omega⟩
  unfold manifest_Encode encd
  simp only
  rw [check_eq k m (by omega), Option.bind_some]
  by_cases hc : chk m = 0
  · have hb : (chk m != 0) = false := by rw [hc]; rfl
    have hg := chk_good hc
    have hbl := hg.2.2.1
    have hml := man_len hg
    rw [hb, cond_false, if_neg (show ¬ chk m ≠ 0 from fun h => h hc), man_write k m hg (by omega), Option.bind_some]
    have e2 := encode_l0 k m (by omega) hbl hg.2.2.2 m.Blocks.length 0 k (ofL (lnT manL (manNs m) m.Log)) (by omega) (by omega) (by rw [ofL_size]; omega)
    rw [Int.natCast_zero] at e2
    rw [e2, List.drop_zero, ofL_app]
    exact encode_s1 k m hg (by omega)
  · have hb : (chk m != 0) = true := by rw [bne_iff_ne]; exact hc
    rw [hb, cond_true, if_pos (show chk m ≠ 0 from hc)]
/-! ### The reference's -/
theorem rlines_l0 (n : Nat) (m : GManifest) (hn : 1 ≤ n) (hl : m.Blocks.length ≤ 100) (hg : ∀ b ∈ m.Blocks, goodB b) : ∀ (k i f : Nat) (s : ByteArray), i + k = m.Blocks.length → k < f → s.size + 200 * k ≤ 100000 →
    lookoutref24_lines_l0 n m f s (i : Int) = some (s ++ ofL (blksT (m.Blocks.drop i)))
  | k, i, 0, s, _, h, _ => by omega
  | 0, i, f + 1, s, h, _, _ => by
    have h1 : ¬ ((i : Int) < (m.Blocks.length : Int)) := by omega
    have hd : m.Blocks.drop i = [] := List.drop_eq_nil_of_le (by omega)
    have he : s ++ ofL (blksT []) = s := ky_inj (by rw [ky_app, ky_ofL]; simp [blksT])
    unfold lookoutref24_lines_l0
    rw [bzn h1, hd, he]
  | k + 1, i, f + 1, s, h, h1, hs => by
    have hx : i < m.Blocks.length := by omega
    have h2 : ((i : Int) < (m.Blocks.length : Int)) := by omega
    have hgb : goodB (m.Blocks.getD i dGBlockRef) := hg _ (by rw [List.getD_eq_getElem?_getD, List.getElem?_eq_getElem hx]; exact List.getElem_mem hx)
    have ih := fun s' hs' => rlines_l0 n m hn hl hg k (i + 1) f s' (by omega) (by omega) hs'
    unfold lookoutref24_lines_l0
    rw [bz h2, dec_in i _ hx, cond_true, toNat_c, getD_dropB hx]
    generalize m.Blocks.getD i dGBlockRef = b at hgb
    have hlen := blkT_len hgb
    have hfs := hgb.2.2.2
    have sz : ∀ x ∈ blkNs b, (ofL (itoa x)).size ≤ 20 := fun x hx => by rw [ofL_size]; exact itoa_len (hgb.1 x hx).1 (hgb.1 x hx).2
    have x1 := itoaS_eq n b.Id hn (hgb.1 _ (by simp [blkNs]))
    have x2 := itoaS_eq n b.Width hn (hgb.1 _ (by simp [blkNs]))
    have x3 := itoaS_eq n b.MinTime hn (hgb.1 _ (by simp [blkNs]))
    have x4 := itoaS_eq n b.MaxTime hn (hgb.1 _ (by simp [blkNs]))
    have x5 := itoaS_eq n b.Size hn (hgb.1 _ (by simp [blkNs]))
    have y1 := sz b.Id (by simp [blkNs])
    have y2 := sz b.Width (by simp [blkNs])
    have y3 := sz b.MinTime (by simp [blkNs])
    have y4 := sz b.MaxTime (by simp [blkNs])
    have y5 := sz b.Size (by simp [blkNs])
    have z1 : (⟨#[32]⟩ : ByteArray).size = 1 := rfl
    have z2 : (⟨#[98, 108, 111, 99, 107, 32]⟩ : ByteArray).size = 6 := rfl
    refine (bz (by omega) _ _).trans ?_
    rw [x1, Option.bind_some]
    refine (bz (by simp only [ByteArray.size_append, z1, z2]; omega) _ _).trans ?_
    refine (bz (by simp only [ByteArray.size_append, z1, z2]; omega) _ _).trans ?_
    rw [x2, Option.bind_some]
    refine (bz (by simp only [ByteArray.size_append, z1, z2]; omega) _ _).trans ?_
    refine (bz (by simp only [ByteArray.size_append, z1, z2]; omega) _ _).trans ?_
    rw [x3, Option.bind_some]
    refine (bz (by simp only [ByteArray.size_append, z1, z2]; omega) _ _).trans ?_
    refine (bz (by simp only [ByteArray.size_append, z1, z2]; omega) _ _).trans ?_
    rw [x4, Option.bind_some]
    refine (bz (by simp only [ByteArray.size_append, z1, z2]; omega) _ _).trans ?_
    refine (bz (by simp only [ByteArray.size_append, z1, z2]; omega) _ _).trans ?_
    rw [x5, Option.bind_some]
    refine (bz (by simp only [ByteArray.size_append, z1, z2]; omega) _ _).trans ?_
    refine (bz (by simp only [ByteArray.size_append, z1, z2]; omega) _ _).trans ?_
    refine (bz (by simp only [ByteArray.size_append, z1, z2]; omega) _ _).trans ?_
    refine (bz (by simp only [ByteArray.size_append, z1, z2]; omega) _ _).trans ?_
    have eq : ∀ t : ByteArray, t = s ++ ofL (blkT b) → lookoutref24_lines_l0 n m f t (IntKind.wrap .i64 ((i : Int) + 1)) = some (s ++ ofL (blksT (b :: m.Blocks.drop (i + 1)))) := by
      intro t ht
      subst ht
      rw [wr1 i (by omega), ih _ (by rw [ByteArray.size_append, ofL_size]; omega)]
      congr 1
      apply ky_inj
      simp only [ky_app, ky_ofL, blksT, List.append_assoc]
    apply eq
    apply ky_inj
    simp only [ky_app, ky_ofL, blkT, lnT, lnW, blkNs, nsT, blkL]
    simp [ky]
theorem rlines_eq (n : Nat) (m : GManifest) (hg : goodM m) (hn : 200 ≤ n) : lookoutref24_lines n m = some (ofL (txt m)) := by
  obtain ⟨k, rfl⟩ : ∃ k, n = k + 1 := ⟨n - 1, by omega⟩
  have hls := hg.2.1.2.2
  have hl1 := lnT_len manL (manNs m) m.Log hg.1
  simp only [manNs, manL, List.length_cons, List.length_nil] at hl1
  have hbl := hg.2.2.1
  have sz : ∀ x ∈ manNs m, (ofL (itoa x)).size ≤ 20 := fun x hx => by rw [ofL_size]; exact itoa_len (hg.1 x hx).1 (hg.1 x hx).2
  have x1 := itoaS_eq k m.Version (by omega) (hg.1 _ (by simp [manNs]))
  have x2 := itoaS_eq k m.Next (by omega) (hg.1 _ (by simp [manNs]))
  have x3 := itoaS_eq k m.RawFrom (by omega) (hg.1 _ (by simp [manNs]))
  have y1 := sz m.Version (by simp [manNs])
  have y2 := sz m.Next (by simp [manNs])
  have y3 := sz m.RawFrom (by simp [manNs])
  have z1 : (⟨#[32]⟩ : ByteArray).size = 1 := rfl
  have z2 : (⟨#[109, 97, 110, 105, 102, 101, 115, 116, 32]⟩ : ByteArray).size = 9 := rfl
  unfold lookoutref24_lines
  simp only
  rw [x1, Option.bind_some]
  refine (bz (by omega) _ _).trans ?_
  refine (bz (by simp only [ByteArray.size_append, z1, z2]; omega) _ _).trans ?_
  rw [x2, Option.bind_some]
  refine (bz (by simp only [ByteArray.size_append, z1, z2]; omega) _ _).trans ?_
  refine (bz (by simp only [ByteArray.size_append, z1, z2]; omega) _ _).trans ?_
  rw [x3, Option.bind_some]
  refine (bz (by simp only [ByteArray.size_append, z1, z2]; omega) _ _).trans ?_
  refine (bz (by simp only [ByteArray.size_append, z1, z2]; omega) _ _).trans ?_
  refine (bz (by simp only [ByteArray.size_append, z1, z2]; omega) _ _).trans ?_
  refine (bz (by simp only [ByteArray.size_append, z1, z2]; omega) _ _).trans ?_
  have eq : ∀ t : ByteArray, t = ofL (lnT manL (manNs m) m.Log) → lookoutref24_lines_l0 k m k t 0 = some (ofL (txt m)) := by
    intro t ht
    subst ht
    refine (rlines_l0 k m (by omega) hbl hg.2.2.2 m.Blocks.length 0 k _ (by omega) (by omega) (by rw [ofL_size]; unfold manL manNs; omega)).trans ?_
    rw [List.drop_zero, ofL_app]; rfl
  apply eq
  apply ky_inj
  simp only [ky_app, ky_ofL, lnT, lnW, manNs, nsT, manL]
  simp [ky]
theorem rencode_eq (n : Nat) (m : GManifest) (hn : 30000 ≤ n) (hlg : m.Log.size + 600 ≤ n ∧ m.Log.size ≤ 9223372036854775807) (hf : ∀ b ∈ m.Blocks, b.File.size + 600 ≤ n ∧ b.File.size ≤ 9223372036854775807) : lookoutref24_Encode n m = some (encd m) := by
  obtain ⟨k, rfl⟩ : ∃ k, n = k + 1 := ⟨n - 1, by omega⟩
  unfold lookoutref24_Encode encd
  simp only
  rw [rcheck_eq k m (by omega) ⟨by omega, hlg.2⟩ (fun b hb => ⟨by have := (hf b hb).1; omega, (hf b hb).2⟩), Option.bind_some]
  by_cases hc : chk m = 0
  · have hb : (chk m != 0) = false := by rw [hc]; rfl
    have hg := chk_good hc
    have hlen := txt_len hg
    have hsz : (ofL (txt m)).size = (txt m).length := ofL_size _
    rw [hb, cond_false, if_neg (show ¬ chk m ≠ 0 from fun h => h hc), rlines_eq k m hg (by omega), Option.bind_some, rseal_eq k _ (by omega) (by omega), Option.bind_some]
  · have hb : (chk m != 0) = true := by rw [bne_iff_ne]; exact hc
    rw [hb, cond_true, if_pos (show chk m ≠ 0 from hc)]
end Go.Proofs.YtomalcfghdaghaaDoor
