/- Plain laws of the manifest, 4: the check, the program's and the reference's. -/
import Derived.Test.YtomalcfghdaghaaDoorMn0
import Derived.Test.YtomalcfghdaghaaDoorMn3
set_option linter.unusedVariables false
set_option linter.unusedSimpArgs false
namespace Go.Proofs.YtomalcfghdaghaaDoor
open Go Go.AM Go.Lib
instance memDec (x : ByteArray) (l : List ByteArray) : Decidable (x ∈ l) := @List.instDecidableMemOfLawfulBEq _ instBEqOfDecidableEq _ x l
theorem bsome {α : Type} {c : Prop} [Decidable c] {a y : α} {x : Option α} (h : x = some y) : (bif decide c then some a else x) = some (if c then a else y) := by
  by_cases hc : c
  · rw [decide_eq_true hc, if_pos hc]; rfl
  · rw [decide_eq_false hc, if_neg hc]; exact h
def rc (next prev : Int) (b : GBlockRef) : Int :=
  if b.Id < 1 then 2 else if b.Id ≥ next then 2 else if b.Id ≤ prev then 9 else if b.Width < 0 then 2 else if b.Width > 1099511627776 then 2 else if b.MinTime < 1 then 2 else if b.MinTime > 1099511627776 then 2 else
  if b.MaxTime < b.MinTime then 2 else if b.MaxTime > 1099511627776 then 2 else if b.Size < 0 then 2 else if b.Size > 1048576 then 2 else if nmOk b.File = true then 0 else 5
theorem checkRef_eq (n : Nat) (b : GBlockRef) (next prev : Int) (hn : 70 ≤ n) : manifest_checkRef n b next prev = some (rc next prev b) := by
  obtain ⟨m, rfl⟩ : ∃ m, n = m + 1 := ⟨n - 1, by omega⟩
  unfold manifest_checkRef rc
  refine bsome (bsome (bsome (bsome (bsome (bsome (bsome (bsome (bsome (bsome (bsome ?_))))))))))
  rw [isName_eq m b.File (by omega), Option.bind_some]
  cases nmOk b.File <;> rfl
def chkL (next : Int) : Int → List ByteArray → List GBlockRef → Int
  | _, _, [] => 0
  | prev, seen, b :: r => if rc next prev b ≠ 0 then rc next prev b else if b.File ∈ seen then 6 else chkL next b.Id (seen ++ [b.File]) r
def chk (m : GManifest) : Int :=
  if m.Version < 0 then 2 else if m.Version > 1152921504606846976 then 2 else if m.Next < 1 then 2 else if m.Next > 1152921504606846976 then 2 else if m.RawFrom < 0 then 2 else if m.RawFrom > 1099511627776 then 2 else
  if nmOk m.Log = false then 5 else if m.Blocks.length > 100 then 4 else chkL m.Next 0 [m.Log] m.Blocks
theorem lk_putL (f g : ByteArray) (v : Bool) : ∀ l : List (ByteArray × Bool), lk f (putL g v l) = bif decide (f = g) then some v else lk f l
  | [] => by simp only [putL, lk, beqS]
  | (a, b) :: l => by
    have ih := lk_putL f g v l
    simp only [putL, beqS]
    by_cases h : g = a
    · subst h
      rw [decide_eq_true rfl, cond_true]
      simp only [lk, beqS]
      cases decide (f = g) <;> rfl
    · rw [decide_eq_false h, cond_false]
      simp only [lk, beqS]
      rw [ih]
      by_cases h1 : f = a
      · have h2 : ¬ f = g := fun e => h (e ▸ h1)
        rw [decide_eq_true h1, decide_eq_false h2]; rfl
      · rw [decide_eq_false h1]; rfl
theorem getD_dropB {l : List GBlockRef} {i : Nat} (h : i < l.length) : l.drop i = l.getD i dGBlockRef :: l.drop (i + 1) := by
  rw [List.drop_eq_getElem_cons h, List.getD_eq_getElem?_getD, List.getElem?_eq_getElem h]; rfl
theorem check_l0 (n : Nat) (m : GManifest) (hn : 70 ≤ n) (hl : m.Blocks.length ≤ 100) : ∀ (k i f : Nat) (prev : Int) (seen : List ByteArray) (l1 : List (ByteArray × Bool)), i + k = m.Blocks.length → k < f → (∀ x, (lk x l1).getD false = decide (x ∈ seen)) →
    manifest_Check_l0 n m f prev (m.Blocks.length : Int) (i : Int) l1 = some (chkL m.Next prev seen (m.Blocks.drop i))
  | k, i, 0, prev, seen, l1, _, h, _ => by omega
  | 0, i, f + 1, prev, seen, l1, h, _, hs => by
    have h1 : ¬ ((i : Int) < (m.Blocks.length : Int)) := by omega
    have hd : m.Blocks.drop i = [] := List.drop_eq_nil_of_le (by omega)
    unfold manifest_Check_l0
    rw [bzn h1, hd]; rfl
  | k + 1, i, f + 1, prev, seen, l1, h, h1, hs => by
    have hx : i < m.Blocks.length := by omega
    have h2 : ((i : Int) < (m.Blocks.length : Int)) := by omega
    unfold manifest_Check_l0
    rw [bz h2, dec_in i _ hx, cond_true, toNat_c, checkRef_eq n _ _ _ hn, Option.bind_some, getD_dropB hx, chkL]
    generalize m.Blocks.getD i dGBlockRef = b
    by_cases hr : rc m.Next prev b = 0
    · have hb : (rc m.Next prev b != 0) = false := by rw [hr]; rfl
      rw [if_neg (show ¬ rc m.Next prev b ≠ 0 from fun e => e hr), hb, cond_false, hs]
      by_cases hm : b.File ∈ seen
      · rw [decide_eq_true hm, if_pos hm]; rfl
      · rw [decide_eq_false hm, if_neg hm, cond_false, wr1 i (by omega)]
        refine check_l0 n m hn hl k (i + 1) f b.Id (seen ++ [b.File]) _ (by omega) (by omega) (fun x => ?_)
        rw [lk_putL]
        by_cases hxf : x = b.File
        · subst hxf
          simp
        · rw [decide_eq_false hxf, cond_false, hs]
          rw [Bool.eq_iff_iff, decide_eq_true_eq, decide_eq_true_eq]
          simp [hxf]
    · have hb : (rc m.Next prev b != 0) = true := by rw [bne_iff_ne]; exact hr
      rw [if_pos hr, hb, cond_true]
theorem check_eq (n : Nat) (m : GManifest) (hn : 300 ≤ n) : manifest_Check n m = some (chk m) := by
  obtain ⟨k, rfl⟩ : ∃ k, n = k + 1 := ⟨n - 1, by omega⟩
  unfold manifest_Check chk
  refine bsome (bsome (bsome (bsome (bsome (bsome ?_)))))
  rw [isName_eq k m.Log (by omega), Option.bind_some]
  cases nmOk m.Log with
  | false => rfl
  | true =>
    rw [Bool.not_true, cond_false, if_neg (by simp)]
    by_cases hl : m.Blocks.length > 100
    · rw [if_pos hl, bz (show (m.Blocks.length : Int) > 100 by omega)]
    · rw [if_neg hl, bzn (show ¬ (m.Blocks.length : Int) > 100 by omega)]
      refine check_l0 k m (by omega) (by omega) m.Blocks.length 0 k 0 [m.Log] _ (by omega) (by omega) (fun x => ?_)
      rw [lk_putL]
      by_cases h : x = m.Log
      · subst h; simp
      · rw [decide_eq_false h]; simp [lk, h]
/-! ### The reference's -/
theorem within_eq (n : Nat) (a lo hi : Int) (hn : 1 ≤ n) : lookoutref24_within n a lo hi = some (decide (lo ≤ a) && decide (a ≤ hi)) := by
  obtain ⟨m, rfl⟩ : ∃ m, n = m + 1 := ⟨n - 1, by omega⟩
  unfold lookoutref24_within
  simp only
  by_cases h : a ≥ lo
  · rw [bz h, decide_eq_true (show lo ≤ a from h), Bool.true_and]
  · rw [bzn h, decide_eq_false (show ¬ lo ≤ a from h)]; rfl
theorem wsome {lo hi a : Int} {x : Option Int} {y : Int} {c : Int} (h : x = some y) : (bif (!(decide (lo ≤ a) && decide (a ≤ hi))) then some c else x) = some (if a < lo then c else if a > hi then c else y) := by
  by_cases h1 : a < lo
  · rw [if_pos h1, decide_eq_false (show ¬ lo ≤ a by omega)]; rfl
  · rw [if_neg h1, decide_eq_true (show lo ≤ a by omega), Bool.true_and]
    by_cases h2 : a > hi
    · rw [if_pos h2, decide_eq_false (show ¬ a ≤ hi by omega)]; rfl
    · rw [if_neg h2, decide_eq_true (show a ≤ hi by omega)]; exact h
theorem checkBlock_l0 (n i : Nat) (m : GManifest) (a1 a2 a3 a4 a5 : Int) (s : ByteArray) (hi : i ≤ m.Blocks.length) (hb : i < 1000000) : ∀ (k j f : Nat), j + k = i → k < f →
    lookoutref24_checkBlock_l0 n (i : Int) m f a1 a2 s a3 a4 a5 (j : Int) = some (if s ∈ ((m.Blocks.take i).drop j).map (·.File) then 6 else 0)
  | k, j, 0, _, h => by omega
  | 0, j, f + 1, h, _ => by
    have h1 : ¬ ((j : Int) < (i : Int)) := by omega
    have hd : (m.Blocks.take i).drop j = [] := List.drop_eq_nil_of_le (by rw [List.length_take]; omega)
    unfold lookoutref24_checkBlock_l0
    rw [bzn h1, hd]; rfl
  | k + 1, j, f + 1, h, h1 => by
    have hx : j < m.Blocks.length := by omega
    have h2 : ((j : Int) < (i : Int)) := by omega
    have ih := checkBlock_l0 n i m a1 a2 a3 a4 a5 s hi hb k (j + 1) f (by omega) (by omega)
    have hg : (m.Blocks.take i).getD j dGBlockRef = m.Blocks.getD j dGBlockRef := by
      rw [List.getD_eq_getElem?_getD, List.getD_eq_getElem?_getD, List.getElem?_take_of_lt (by omega)]
    have hd := getD_dropB (l := m.Blocks.take i) (i := j) (by rw [List.length_take]; omega)
    unfold lookoutref24_checkBlock_l0
    rw [bz h2, dec_in j _ hx, cond_true, toNat_c, sEq_eq, wr1 j (by omega), ih, hd, hg, List.map_cons]
    by_cases he : (m.Blocks.getD j dGBlockRef).File = s
    · rw [decide_eq_true he, cond_true, if_pos (by rw [he]; exact .head _)]
    · rw [decide_eq_false he, cond_false]
      by_cases hm : s ∈ ((m.Blocks.take i).drop (j + 1)).map (·.File)
      · rw [if_pos hm, if_pos (.tail _ hm)]
      · rw [if_neg hm, if_neg (fun e => by
          rcases List.mem_cons.1 e with e | e
          · exact he e.symm
          · exact hm e)]
def prevId (m : GManifest) (i : Nat) : Int := if i = 0 then 0 else (m.Blocks.getD (i - 1) dGBlockRef).Id
def blockR (m : GManifest) (i : Nat) : Int :=
  if rc m.Next (prevId m i) (m.Blocks.getD i dGBlockRef) ≠ 0 then rc m.Next (prevId m i) (m.Blocks.getD i dGBlockRef) else if (m.Blocks.getD i dGBlockRef).File ∈ m.Log :: (m.Blocks.take i).map (·.File) then 6 else 0
theorem rest_eq (n : Nat) (m : GManifest) (i : Nat) (b : GBlockRef) (hb : m.Blocks.getD i dGBlockRef = b) (hi : i < m.Blocks.length) (hl : m.Blocks.length ≤ 100) (hn : 500 ≤ n) (hf : b.File.size + 400 ≤ n) (hfs : b.File.size ≤ 9223372036854775807) (w : Int) :
    ((lookoutref24_name n b.File).bind fun r6 => (bif (!r6) then (some 5) else (bif (sEq b.File m.Log) then (some 6) else (lookoutref24_checkBlock_l0 n (i : Int) m n b.Id b.Width b.File b.MinTime b.MaxTime b.Size 0)))) =
      some (if (if nmOk b.File = true then (0 : Int) else 5) ≠ 0 then (if nmOk b.File = true then (0 : Int) else 5) else if b.File ∈ m.Log :: (m.Blocks.take i).map (·.File) then 6 else 0) := by
  rw [rname_eq n b.File (by omega) hfs, Option.bind_some]
  have hc : lookoutref24_checkBlock_l0 n (i : Int) m n b.Id b.Width b.File b.MinTime b.MaxTime b.Size 0 = _ := checkBlock_l0 n i m b.Id b.Width b.MinTime b.MaxTime b.Size b.File (by omega) (by omega) i 0 n (by omega) (by omega)
  rw [hc]
  cases nmOk b.File with
  | false => rfl
  | true =>
    rw [Bool.not_true, cond_false, sEq_eq, List.drop_zero]
    by_cases h1 : b.File = m.Log
    · rw [decide_eq_true h1, cond_true, if_neg (show ¬ (if true = true then (0 : Int) else 5) ≠ 0 by decide), if_pos (by rw [h1]; exact .head _)]
    · rw [decide_eq_false h1, cond_false, if_neg (show ¬ (if true = true then (0 : Int) else 5) ≠ 0 by decide)]
      by_cases hm : b.File ∈ (m.Blocks.take i).map (·.File)
      · rw [if_pos hm, if_pos (.tail _ hm)]
      · rw [if_neg hm, if_neg (fun e => by
          rcases List.mem_cons.1 e with e | e
          · exact h1 e
          · exact hm e)]
theorem if_push {c : Prop} [Decidable c] {k x y z : Int} (hk : k ≠ 0) (h : y = if x ≠ 0 then x else z) : (if c then k else y) = if (if c then k else x) ≠ 0 then (if c then k else x) else z := by
  by_cases hc : c
  · rw [if_pos hc, if_pos hc, if_pos hk]
  · rw [if_neg hc, if_neg hc]; exact h
theorem checkBlock_eq (n : Nat) (m : GManifest) (i : Nat) (hi : i < m.Blocks.length) (hl : m.Blocks.length ≤ 100) (hnx : 1 ≤ m.Next ∧ m.Next ≤ 1152921504606846976) (hn : 501 ≤ n) (hf : ∀ b ∈ m.Blocks, b.File.size + 401 ≤ n ∧ b.File.size ≤ 9223372036854775807) :
    lookoutref24_checkBlock n m (i : Int) = some (blockR m i) := by
  obtain ⟨k, rfl⟩ : ∃ k, n = k + 1 := ⟨n - 1, by omega⟩
  have hmem : m.Blocks.getD i dGBlockRef ∈ m.Blocks := by rw [List.getD_eq_getElem?_getD, List.getElem?_eq_getElem hi]; exact List.getElem_mem hi
  have hfi := hf _ hmem
  have hw : IntKind.wrap .i64 (m.Next - 1) = m.Next - 1 := wr _ (by omega) (by omega)
  have hrest := rest_eq k m i _ rfl hi hl (by omega) (by omega) hfi.2 0
  unfold lookoutref24_checkBlock
  simp only
  rw [dec_in i _ hi, cond_true, toNat_c, hw]
  simp only [within_eq k _ _ _ (show 1 ≤ k by omega), Option.bind_some]
  have hid : ∀ {x : Option Int} {y : Int}, x = some y → ∀ a : Int, (bif (!(decide (1 ≤ a) && decide (a ≤ m.Next - 1))) then some (2 : Int) else x) = some (if a < 1 then 2 else if a ≥ m.Next then 2 else y) := by
    intro x y h a
    rw [wsome h]
    by_cases h1 : a < 1
    · rw [if_pos h1, if_pos h1]
    · rw [if_neg h1, if_neg h1]
      by_cases h2 : a ≥ m.Next
      · rw [if_pos h2, if_pos (by omega)]
      · rw [if_neg h2, if_neg (by omega)]
  have fin : ∀ prev : Int, (if (m.Blocks.getD i dGBlockRef).Id < 1 then 2 else if (m.Blocks.getD i dGBlockRef).Id ≥ m.Next then 2 else if (m.Blocks.getD i dGBlockRef).Id ≤ prev then 9 else if (m.Blocks.getD i dGBlockRef).Width < 0 then 2 else if (m.Blocks.getD i dGBlockRef).Width > 1099511627776 then 2 else if (m.Blocks.getD i dGBlockRef).MinTime < 1 then 2 else if (m.Blocks.getD i dGBlockRef).MinTime > 1099511627776 then 2 else if (m.Blocks.getD i dGBlockRef).MaxTime < (m.Blocks.getD i dGBlockRef).MinTime then 2 else if (m.Blocks.getD i dGBlockRef).MaxTime > 1099511627776 then 2 else if (m.Blocks.getD i dGBlockRef).Size < 0 then 2 else if (m.Blocks.getD i dGBlockRef).Size > 1048576 then 2 else
      (if (if nmOk (m.Blocks.getD i dGBlockRef).File = true then (0 : Int) else 5) ≠ 0 then (if nmOk (m.Blocks.getD i dGBlockRef).File = true then (0 : Int) else 5) else if (m.Blocks.getD i dGBlockRef).File ∈ m.Log :: (m.Blocks.take i).map (·.File) then 6 else 0)) =
      if rc m.Next prev (m.Blocks.getD i dGBlockRef) ≠ 0 then rc m.Next prev (m.Blocks.getD i dGBlockRef) else if (m.Blocks.getD i dGBlockRef).File ∈ m.Log :: (m.Blocks.take i).map (·.File) then 6 else 0 := fun prev => by
    unfold rc
    exact if_push (by decide) (if_push (by decide) (if_push (by decide) (if_push (by decide) (if_push (by decide) (if_push (by decide) (if_push (by decide) (if_push (by decide) (if_push (by decide) (if_push (by decide) (if_push (by decide) rfl))))))))))
  unfold blockR
  rw [← fin (prevId m i)]
  by_cases h0 : i = 0
  · subst h0
    have hp : prevId m 0 = 0 := rfl
    rw [hp]
    have hgt : ¬ (((0 : Nat) : Int) > 0) := by omega
    rw [bzn hgt]
    refine (hid (wsome (wsome (wsome (wsome hrest)))) _).trans ?_
    congr 1
    by_cases h1 : (m.Blocks.getD 0 dGBlockRef).Id < 1
    · rw [if_pos h1, if_pos h1]
    · rw [if_neg h1, if_neg h1]
      rw [if_neg (show ¬ (m.Blocks.getD 0 dGBlockRef).Id ≤ 0 by omega)]
  · have hp : prevId m i = (m.Blocks.getD (i - 1) dGBlockRef).Id := if_neg h0
    rw [hp]
    have hgt : ((i : Int) > 0) := by omega
    have hw1 : IntKind.wrap .i64 ((i : Int) - 1) = ((i - 1 : Nat) : Int) := by rw [wr _ (by omega) (by omega)]; omega
    rw [bz hgt, hw1, dec_in (i - 1) _ (by omega), cond_true, toNat_c]
    exact hid (bsome (wsome (wsome (wsome (wsome hrest))))) _
theorem rcheck_l0 (n : Nat) (m : GManifest) (hl : m.Blocks.length ≤ 100) (hnx : 1 ≤ m.Next ∧ m.Next ≤ 1152921504606846976) (hn : 501 ≤ n) (hf : ∀ b ∈ m.Blocks, b.File.size + 401 ≤ n ∧ b.File.size ≤ 9223372036854775807) : ∀ (k i f : Nat), i + k = m.Blocks.length → k < f →
    lookoutref24_Check_l0 n m f (i : Int) = some (chkL m.Next (prevId m i) (m.Log :: (m.Blocks.take i).map (·.File)) (m.Blocks.drop i))
  | k, i, 0, _, h => by omega
  | 0, i, f + 1, h, _ => by
    have h1 : ¬ ((i : Int) < (m.Blocks.length : Int)) := by omega
    have hd : m.Blocks.drop i = [] := List.drop_eq_nil_of_le (by omega)
    unfold lookoutref24_Check_l0
    rw [bzn h1, hd]; rfl
  | k + 1, i, f + 1, h, h1 => by
    have hx : i < m.Blocks.length := by omega
    have h2 : ((i : Int) < (m.Blocks.length : Int)) := by omega
    have ih := rcheck_l0 n m hl hnx hn hf k (i + 1) f (by omega) (by omega)
    unfold lookoutref24_Check_l0
    rw [bz h2, checkBlock_eq n m i hx hl hnx hn hf, Option.bind_some, wr1 i (by omega), ih, getD_dropB hx, chkL]
    have ht : m.Log :: (m.Blocks.take i).map (·.File) ++ [(m.Blocks.getD i dGBlockRef).File] = m.Log :: (m.Blocks.take (i + 1)).map (·.File) := by
      rw [List.take_add_one, List.getD_eq_getElem?_getD, List.getElem?_eq_getElem hx]
      simp only [Option.toList_some, Option.getD_some, List.map_append, List.map_cons, List.map_nil, List.cons_append]
    have hp : prevId m (i + 1) = (m.Blocks.getD i dGBlockRef).Id := by unfold prevId; rw [if_neg (by omega), Nat.add_sub_cancel]
    rw [ht, hp]
    unfold blockR
    generalize rc m.Next (prevId m i) (m.Blocks.getD i dGBlockRef) = z
    by_cases hz : z = 0
    · rw [if_neg (show ¬ z ≠ 0 from fun e => e hz), if_neg (show ¬ z ≠ 0 from fun e => e hz)]
      by_cases hm : (m.Blocks.getD i dGBlockRef).File ∈ m.Log :: (m.Blocks.take i).map (·.File)
      · rw [if_pos hm, if_pos hm]; rfl
      · rw [if_neg hm, if_neg hm]; rfl
    · rw [if_pos (show z ≠ 0 from hz), if_pos (show z ≠ 0 from hz)]
      have : (z != 0) = true := by rw [bne_iff_ne]; exact hz
      rw [this, cond_true]
theorem rcheck_eq (n : Nat) (m : GManifest) (hn : 600 ≤ n) (hlg : m.Log.size + 500 ≤ n ∧ m.Log.size ≤ 9223372036854775807) (hf : ∀ b ∈ m.Blocks, b.File.size + 500 ≤ n ∧ b.File.size ≤ 9223372036854775807) : lookoutref24_Check n m = some (chk m) := by
  obtain ⟨k, rfl⟩ : ∃ k, n = k + 1 := ⟨n - 1, by omega⟩
  unfold lookoutref24_Check chk
  simp only [within_eq k _ _ _ (show 1 ≤ k by omega), Option.bind_some]
  by_cases h3 : m.Next < 1
  · refine wsome ?_
    rw [decide_eq_false (show ¬ 1 ≤ m.Next by omega), if_pos h3]; rfl
  · by_cases h4 : m.Next > 1152921504606846976
    · refine wsome ?_
      rw [decide_eq_false (show ¬ m.Next ≤ 1152921504606846976 by omega), if_neg h3, if_pos h4, Bool.and_false]; rfl
    · refine wsome (wsome (wsome ?_))
      rw [rname_eq k m.Log (by omega) hlg.2, Option.bind_some]
      cases nmOk m.Log with
      | false => rfl
      | true =>
        rw [Bool.not_true, cond_false, if_neg (by simp)]
        by_cases hl : m.Blocks.length > 100
        · rw [if_pos hl, bz (show (m.Blocks.length : Int) > 100 by omega)]
        · rw [if_neg hl, bzn (show ¬ (m.Blocks.length : Int) > 100 by omega)]
          exact rcheck_l0 k m (by omega) ⟨by omega, by omega⟩ (by omega) (fun b hb => ⟨by have := (hf b hb).1; omega, (hf b hb).2⟩) m.Blocks.length 0 k (by omega) (by omega)
end Go.Proofs.YtomalcfghdaghaaDoor
