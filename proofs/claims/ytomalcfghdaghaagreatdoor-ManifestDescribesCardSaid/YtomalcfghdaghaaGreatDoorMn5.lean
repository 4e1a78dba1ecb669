/- Plain laws of the manifest, 4: the check, the program's and the reference's. -/
import Derived.Test.YtomalcfghdaghaaGreatDoorMn0
import Derived.Test.YtomalcfghdaghaaGreatDoorMn3
set_option linter.unusedVariables false
set_option linter.unusedSimpArgs false
namespace Go.Proofs.YtomalcfghdaghaaGreatDoor
open Go Go.AM Go.Lib
instance memDec (x : ByteArray) (l : List ByteArray) : Decidable (x ∈ l) := @List.instDecidableMemOfLawfulBEq _ instBEqOfDecidableEq _ x l
theorem bsome {α : Type} {c : Prop} [Decidable c] {a y : α} {x : Option α} (h : x = some y) : (bif decide c then some a else x) = some (if c then a else y) := by
  by_cases hc : c
  · rw [decide_eq_true hc, if_pos hc]; rfl
  · rw [decide_eq_false hc, if_neg hc]; exact h
def rc (next prev : Int) (b : GBlockRef) : Int :=
  if b.Id < 1 then 2 else if b.Id ≥ next then 2 else if b.Id ≤ prev then 9 else if b.Width < 0 then 2 else if b.Width > 1099511627776 then 2 else if b.MinTime < 1 then 2 else if b.MinTime > 1099511627776 then 2 else
  if b.MaxTime < b.MinTime then 2 else if b.MaxTime > 1099511627776 then 2 else if b.Size < 0 then 2 else if b.Size > 1048576 then 2 else if nmOk b.File = true then 0 else 5
theorem checkRef_eq (n : Nat) (b : GBlockRef) (next prev : Int) (hn : 70 ≤ n) : manifest_checkRef n b next prev = some (rc next prev b) := by
  obtain ⟨m, rfl⟩ : ∃ m, n = m + 1 := ⟨n - 1, by omega⟩
  unfold manifest_checkRef rc
  refine bsome (bsome (bsome (bsome (bsome (bsome (bsome (bsome (bsome (bsome (bsome ?_))))))))))
  rw [isName_eq m b.File (by omega), Option.bind_some]
  cases nmOk b.File <;> rfl
def chkL (next : Int) : Int → List ByteArray → List GBlockRef → Int
  | _, _, [] => 0
  | prev, seen, b :: r => if rc next prev b ≠ 0 then rc next prev b else if b.File ∈ seen then 6 else chkL next b.Id (seen ++ [b.File]) r
def chk (m : GManifest) : Int :=
  if m.Version < 0 then 2 else if m.Version > 1152921504606846976 then 2 else if m.Next < 1 then 2 else if m.Next > 1152921504606846976 then 2 else if m.RawFrom < 0 then 2 else if m.RawFrom > 1099511627776 then 2 else
  if nmOk m.Log = false then 5 else if m.Blocks.length > 100 then 4 else chkL m.Next 0 [m.Log] m.Blocks
theorem lk_putL (f g : ByteArray) (v : Bool) : ∀ l : List (ByteArray × Bool), lk f (putL g v l) = bif decide (f = g) then some v else lk f l
  | [] => by simp only [putL, lk, beqS]
  | (a, b) :: l => by
    have ih := lk_putL f g v l
    simp only [putL, beqS]
    by_cases h : g = a
    · subst h
      rw [decide_eq_true rfl, cond_true]
      simp only [lk, beqS]
      cases decide (f = g) <;> rfl
    · rw [decide_eq_false h, cond_false]
      simp only [lk, beqS]
      rw [ih]
      by_cases h1 : f = a
      · have h2 : ¬ f = g := fun e => h (e ▸ h1)
        rw [decide_eq_true h1, decide_eq_false h2]; rfl
      · rw [decide_eq_false h1]; rfl
theorem getD_dropB {l : List GBlockRef} {i : Nat} (h : i < l.length) : l.drop i = l.getD i dGBlockRef :: l.drop (i + 1) := by
  rw [List.drop_eq_getElem_cons h, List.getD_eq_getElem?_getD, List.getElem?_eq_getElem h]; rfl
theorem check_l0 (n : Nat) (m : GManifest) (hn : 70 ≤ n) (hl : m.Blocks.length ≤ 100) : ∀ (k i f : Nat) (prev : Int) (seen : List ByteArray) (l1 : List (ByteArray × Bool)), i + k = m.Blocks.length → k < f → (∀ x, (lk x l1).getD false = decide (x ∈ seen)) →
    manifest_Check_l0 n m f prev (m.Blocks.length : Int) (i : Int) l1 = some (chkL m.Next prev seen (m.Blocks.drop i))
  | k, i, 0, prev, seen, l1, _, h, _ => by omega
  | 0, i, f + 1, prev, seen, l1, h, _, hs => by
    have h1 : ¬ ((i : Int) < (m.Blocks.length : Int)) := by omega
    have hd : m.Blocks.drop i = [] := List.drop_eq_nil_of_le (by omega)
    unfold manifest_Check_l0
    rw [bzn h1, hd]; rfl
  | k + 1, i, f + 1, prev, seen, l1, h, h1, hs => by
    have hx : i < m.Blocks.length := by omega
    have h2 : ((i : Int) < (m.Blocks.length : Int)) := by omega
    unfold manifest_Check_l0
    rw [bz h2, dec_in i _ hx, cond_true, toNat_c, checkRef_eq n _ _ _ hn, Option.bind_some, getD_dropB hx, chkL]
    generalize m.Blocks.getD i dGBlockRef = b
    by_cases hr : rc m.Next prev b = 0
    · have hb : (rc m.Next prev b != 0) = false := by rw [hr]; rfl
      rw [if_neg (show ¬ rc m.Next prev b ≠ 0 from fun e => e hr), hb, cond_false, hs]
      by_cases hm : b.File ∈ seen
      · rw [decide_eq_true hm, if_pos hm]; rfl
      · rw [decide_eq_false hm, if_neg hm, cond_false, wr1 i (by omega)]
        refine check_l0 n m hn hl k (i + 1) f b.Id (seen ++ [b.File]) _ (by omega) (by omega) (fun x => ?_)
        rw [lk_putL]
        by_cases hxf : x = b.File
        · subst hxf
          simp
        · rw [decide_eq_false hxf, cond_false, hs]
          rw [Bool.eq_iff_iff, decide_eq_true_eq, decide_eq_true_eq]
          simp [hxf]
    · have hb : (rc m.Next prev b != 0) = true := by rw [bne_iff_ne]; exact hr
      rw [if_pos hr, hb, cond_true]
theorem check_eq (n : Nat) (m : GManifest) (hn : 300 ≤ n) : manifest_Check n m = some (chk m) := by
  obtain ⟨k, rfl⟩ : ∃ k, n = k + 1 := ⟨n - 1, by omega⟩
  unfold manifest_Check chk
  refine bsome (bsome (bsome (bsome (bsome (bsome ?_)))))
  rw [isName_eq k m.Log (by omega), Option.bind_some]
  cases nmOk m.Log with
  | false => rfl
  | true =>
    rw [Bool.not_true, cond_false, if_neg (by simp)]
    by_cases hl : m.Blocks.length > 100
    · rw [if_pos hl, bz (show (m.Blocks.length : Int) > 100 by omega)]
    · rw [if_neg hl, bzn (show ¬ (m.Blocks.length : Int) > 100 by omega)]
      refine check_l0 k m (by omega) (by omega) m.Blocks.length 0 k 0 [m.Log] _ (by omega) (by omega) (fun x => ?_)
      rw [lk_putL]
      by_cases h : x = m.Log
      · subst h; simp
      · rw [decide_eq_false h]; simp [lk, h]
/-! ### The reference's -/
theorem wsome {lo hi a : Int} {x : Option Int} {y : Int} {c : Int} (h : x = some y) : (bif (!(decide (lo ≤ a) && decide (a ≤ hi))) then some c else x) = some (if a < lo then c else if a > hi then c else y) := by
  by_cases h1 : a < lo
  · rw [if_pos h1, decide_eq_false (show ¬ lo ≤ a by omega)]; rfl
  · rw [if_neg h1, decide_eq_true (show lo ≤ a by omega), Bool.true_and]
    by_cases h2 : a > hi
    · rw [if_pos h2, decide_eq_false (show ¬ a ≤ hi by omega)]; rfl
    · rw [if_neg h2, decide_eq_true (show a ≤ hi by omega)]; exact h
def prevId (m : GManifest) (i : Nat) : Int := if i = 0 then 0 else (m.Blocks.getD (i - 1) dGBlockRef).Id
def blockR (m : GManifest) (i : Nat) : Int :=
  if rc m.Next (prevId m i) (m.Blocks.getD i dGBlockRef) ≠ 0 then rc m.Next (prevId m i) (m.Blocks.getD i dGBlockRef) else if (m.Blocks.getD i dGBlockRef).File ∈ m.Log :: (m.Blocks.take i).map (·.File) then 6 else 0
theorem if_push {c : Prop} [Decidable c] {k x y z : Int} (hk : k ≠ 0) (h : y = if x ≠ 0 then x else z) : (if c then k else y) = if (if c then k else x) ≠ 0 then (if c then k else x) else z := by
  by_cases hc : c
  · rw [if_pos hc, if_pos hc, if_pos hk]
  · rw [if_neg hc, if_neg hc]; exact h
end Go.Proofs.YtomalcfghdaghaaGreatDoor

/- Plain laws of the manifest, 5: what is encoded, by the program and by the reference. -/
set_option linter.unusedVariables false
set_option linter.unusedSimpArgs false
namespace Go.Proofs.YtomalcfghdaghaaGreatDoor
open Go Go.AM Go.Lib
theorem allB_all (s : ByteArray) : ∀ (k i : Nat), i + k = s.size → allB s i k = true → ∀ c ∈ (ky s).drop i, okB (c.toNat : Int) = true
  | 0, i, h, _, c, hc => by
    rw [List.drop_eq_nil_of_le (by rw [ky_len]; omega)] at hc; cases hc
  | k + 1, i, h, ha, c, hc => by
    have hi : i < s.size := by omega
    unfold allB at ha
    rw [Bool.and_eq_true] at ha
    rw [drop_ky s i hi] at hc
    rcases List.mem_cons.1 hc with e | e
    · subst e
      have := ha.1
      rw [bt_get s i hi] at this; exact this
    · exact allB_all s k (i + 1) (by omega) ha.2 c e
theorem nmOk_good {s : ByteArray} (h : nmOk s = true) : goodF s := by
  unfold nmOk isNm at h
  simp only [Bool.and_eq_true, decide_eq_true_eq] at h
  have ha := allB_all s s.size 0 (by omega) h.1.1.2
  rw [List.drop_zero] at ha
  refine ⟨fun e => ?_, fun e => ?_, h.1.1.1.2⟩
  · exact absurd (ha _ e) (by decide)
  · exact absurd (ha _ e) (by decide)
theorem if_zero {c : Prop} [Decidable c] {a x : Int} (ha : a ≠ 0) (h : (if c then a else x) = 0) : ¬ c ∧ x = 0 := by
  by_cases hc : c
  · rw [if_pos hc] at h; exact absurd h ha
  · rw [if_neg hc] at h; exact ⟨hc, h⟩
theorem rc_good {next prev : Int} {b : GBlockRef} (hx : next ≤ 1152921504606846976) (h : rc next prev b = 0) : goodB b := by
  unfold rc at h
  obtain ⟨h1, h⟩ := if_zero (by decide) h
  obtain ⟨h2, h⟩ := if_zero (by decide) h
  obtain ⟨h3, h⟩ := if_zero (by decide) h
  obtain ⟨h4, h⟩ := if_zero (by decide) h
  obtain ⟨h5, h⟩ := if_zero (by decide) h
  obtain ⟨h6, h⟩ := if_zero (by decide) h
  obtain ⟨h7, h⟩ := if_zero (by decide) h
  obtain ⟨h8, h⟩ := if_zero (by decide) h
  obtain ⟨h9, h⟩ := if_zero (by decide) h
  obtain ⟨h10, h⟩ := if_zero (by decide) h
  obtain ⟨h11, h⟩ := if_zero (by decide) h
  have hn : nmOk b.File = true := by
    by_cases hc : nmOk b.File = true
    · exact hc
    · rw [if_neg hc] at h; exact absurd h (by decide)
  refine ⟨fun x hx => ?_, nmOk_good hn⟩
  simp only [blkNs, List.mem_cons, List.not_mem_nil, or_false] at hx
  rcases hx with rfl | rfl | rfl | rfl | rfl <;> constructor <;> omega
theorem chkL_good {next : Int} (hx : next ≤ 1152921504606846976) : ∀ (bs : List GBlockRef) (prev : Int) (seen : List ByteArray), chkL next prev seen bs = 0 → ∀ b ∈ bs, goodB b
  | [], _, _, _, b, hb => by cases hb
  | a :: r, prev, seen, h, b, hb => by
    unfold chkL at h
    have hr : rc next prev a = 0 := by
      by_cases hc : rc next prev a = 0
      · exact hc
      · rw [if_pos hc] at h; exact h
    rw [if_neg (show ¬ rc next prev a ≠ 0 from fun e => e hr)] at h
    obtain ⟨_, h⟩ := if_zero (by decide) h
    rcases List.mem_cons.1 hb with e | e
    · subst e; exact rc_good hx hr
    · exact chkL_good hx r _ _ h b e
theorem chk_good {m : GManifest} (h : chk m = 0) : goodM m := by
  unfold chk at h
  obtain ⟨h1, h⟩ := if_zero (by decide) h
  obtain ⟨h2, h⟩ := if_zero (by decide) h
  obtain ⟨h3, h⟩ := if_zero (by decide) h
  obtain ⟨h4, h⟩ := if_zero (by decide) h
  obtain ⟨h5, h⟩ := if_zero (by decide) h
  obtain ⟨h6, h⟩ := if_zero (by decide) h
  obtain ⟨h7, h⟩ := if_zero (by decide) h
  obtain ⟨h8, h⟩ := if_zero (by decide) h
  have hn : nmOk m.Log = true := by cases hc : nmOk m.Log with
    | true => rfl
    | false => exact absurd hc h7
  refine ⟨fun x hx => ?_, nmOk_good hn, by omega, chkL_good (by omega) _ _ _ h⟩
  simp only [manNs, List.mem_cons, List.not_mem_nil, or_false] at hx
  rcases hx with rfl | rfl | rfl <;> constructor <;> omega
/-! ### The program's -/
theorem encode_l0 (n : Nat) (m : GManifest) (hn : 20 ≤ n) (hl : m.Blocks.length ≤ 100) (hg : ∀ b ∈ m.Blocks, goodB b) : ∀ (k i f : Nat) (s : ByteArray), i + k = m.Blocks.length → k < f → s.size + 200 * k ≤ 100000 →
    manifest_Encode_l0 n m f (m.Blocks.length : Int) (i : Int) s = manifest_Encode_s1 n (s ++ ofL (blksT (m.Blocks.drop i)))
  | k, i, 0, s, _, h, _ => by omega
  | 0, i, f + 1, s, h, _, _ => by
    have h1 : ¬ ((i : Int) < (m.Blocks.length : Int)) := by omega
    have hd : m.Blocks.drop i = [] := List.drop_eq_nil_of_le (by omega)
    have he : s ++ ofL (blksT []) = s := ky_inj (by rw [ky_app, ky_ofL]; simp [blksT])
    unfold manifest_Encode_l0
    rw [bzn h1, hd, he]
  | k + 1, i, f + 1, s, h, h1, hs => by
    have hx : i < m.Blocks.length := by omega
    have h2 : ((i : Int) < (m.Blocks.length : Int)) := by omega
    have hgb : goodB (m.Blocks.getD i dGBlockRef) := hg _ (by rw [List.getD_eq_getElem?_getD, List.getElem?_eq_getElem hx]; exact List.getElem_mem hx)
    unfold manifest_Encode_l0
    rw [bz h2, dec_in i _ hx, cond_true, toNat_c, getD_dropB hx]
    generalize m.Blocks.getD i dGBlockRef = b at hgb
    have hlen := blkT_len hgb
    have hfs := hgb.2.2.2
    have e : manifest_writeLine n (⟨#[98, 108, 111, 99, 107]⟩ : ByteArray) [b.Id, b.Width, b.MinTime, b.MaxTime, b.Size] b.File s = some (s ++ ofL (blkT b)) := writeLine_eq n blkL (blkNs b) b.File s (by have : (blkNs b).length = 5 := rfl; omega) hgb.1 (by have : (blkNs b).length = 5 := rfl; omega) (by omega) (by have : blkL.length = 5 := rfl; omega)
    rw [e, Option.bind_some, wr1 i (by omega), encode_l0 n m hn hl hg k (i + 1) f _ (by omega) (by omega) (by rw [ByteArray.size_append, ofL_size]; omega)]
    exact congrArg (manifest_Encode_s1 n) (ky_inj (by simp only [ky_app, ky_ofL, blksT, List.append_assoc]))
def encd (m : GManifest) : ByteArray × Int := if chk m ≠ 0 then (bE, 1) else (sealed (ofL (txt m)), 0)
theorem man_len {m : GManifest} (hg : goodM m) : (lnT manL (manNs m) m.Log).length ≤ 200 := by
  have hl1 := lnT_len manL (manNs m) m.Log hg.1
  have hls := hg.2.1.2.2
  have h1 : manL.length = 8 := rfl
  have h2 : (manNs m).length = 3 := rfl
  omega
theorem man_write (k : Nat) (m : GManifest) (hg : goodM m) (hn : 30 ≤ k) : manifest_writeLine k (⟨#[109, 97, 110, 105, 102, 101, 115, 116]⟩ : ByteArray) [m.Version, m.Next, m.RawFrom] m.Log bE = some (ofL (lnT manL (manNs m) m.Log)) := by
  have hls := hg.2.1.2.2
  have h1 : manL.length = 8 := rfl
  have h2 : (manNs m).length = 3 := rfl
  have h3 : bE.size = 0 := rfl
  have e := writeLine_eq k manL (manNs m) m.Log bE (by omega) hg.1 (by omega) (by omega) (by omega)
  have hbe : ∀ l : List UInt8, bE ++ ofL l = ofL l := fun l => ky_inj (by rw [ky_app]; exact List.nil_append _)
  rw [hbe] at e
  exact e
theorem encode_s1 (k : Nat) (m : GManifest) (hg : goodM m) (hn : 29999 ≤ k) : manifest_Encode_s1 k (ofL (txt m)) = some (sealed (ofL (txt m)), 0) := by
  have hlen := txt_len hg
  have hsz : (ofL (txt m)).size = (txt m).length := ofL_size _
  have h1 : 1 ≤ (ofL (txt m)).size := by
    rw [hsz]; simp only [txt, lnT, List.length_append, List.length_cons]; omega
  unfold manifest_Encode_s1
  have es : bString k (ofL (txt m)) = some (ofL (txt m)) := by
    obtain ⟨j, rfl⟩ : ∃ j, k = j + 1 := ⟨k - 1, by omega⟩
    unfold bString; simp only [decide_eq_true h1, cond_true]
  rw [es, Option.bind_some, seal_eq k _ (by omega) (by omega), Option.bind_some]
theorem encode_eq (n : Nat) (m : GManifest) (hn : 30000 ≤ n) : manifest_Encode n m = some (encd m) := by
  obtain ⟨k, rfl⟩ : ∃ k, n = k + 1 := ⟨n - 1, by omega⟩
  unfold manifest_Encode encd
  simp only
  rw [check_eq k m (by omega), Option.bind_some]
  by_cases hc : chk m = 0
  · have hb : (chk m != 0) = false := by rw [hc]; rfl
    have hg := chk_good hc
    have hbl := hg.2.2.1
    have hml := man_len hg
    rw [hb, cond_false, if_neg (show ¬ chk m ≠ 0 from fun h => h hc), man_write k m hg (by omega), Option.bind_some]
    have e2 := encode_l0 k m (by omega) hbl hg.2.2.2 m.Blocks.length 0 k (ofL (lnT manL (manNs m) m.Log)) (by omega) (by omega) (by rw [ofL_size]; omega)
    rw [Int.natCast_zero] at e2
    rw [e2, List.drop_zero, ofL_app]
    exact encode_s1 k m hg (by omega)
  · have hb : (chk m != 0) = true := by rw [bne_iff_ne]; exact hc
    rw [hb, cond_true, if_pos (show chk m ≠ 0 from hc)]
/-! ### The reference's -/
end Go.Proofs.YtomalcfghdaghaaGreatDoor
