/- Plain laws of the manifest, 7: decoding, the program's and the reference's. -/
import Derived.Test.YtomalcfghdaghaaDoorMn6
set_option linter.unusedVariables false
set_option linter.unusedSimpArgs false
namespace Go.Proofs.YtomalcfghdaghaaDoor
open Go Go.AM Go.Lib
def zM : GManifest := ⟨0, 0, 0, bE, []⟩
def smallN (ns : List Int) : Prop := ∀ x ∈ ns, 0 ≤ x ∧ x ≤ 1152921504606846976
theorem rc_small {next prev : Int} {b : GBlockRef} (hx : next ≤ 1152921504606846976) (h : rc next prev b = 0) : smallN (blkNs b) := by
  unfold rc at h
  obtain ⟨h1, h⟩ := if_zero (by decide) h
  obtain ⟨h2, h⟩ := if_zero (by decide) h
  obtain ⟨h3, h⟩ := if_zero (by decide) h
  obtain ⟨h4, h⟩ := if_zero (by decide) h
  obtain ⟨h5, h⟩ := if_zero (by decide) h
  obtain ⟨h6, h⟩ := if_zero (by decide) h
  obtain ⟨h7, h⟩ := if_zero (by decide) h
  obtain ⟨h8, h⟩ := if_zero (by decide) h
  obtain ⟨h9, h⟩ := if_zero (by decide) h
  obtain ⟨h10, h⟩ := if_zero (by decide) h
  obtain ⟨h11, h⟩ := if_zero (by decide) h
  intro x hx
  simp only [blkNs, List.mem_cons, List.not_mem_nil, or_false] at hx
  rcases hx with rfl | rfl | rfl | rfl | rfl <;> constructor <;> omega
theorem chkL_small {next : Int} (hx : next ≤ 1152921504606846976) : ∀ (bs : List GBlockRef) (prev : Int) (seen : List ByteArray), chkL next prev seen bs = 0 → ∀ b ∈ bs, smallN (blkNs b)
  | [], _, _, _, b, hb => by cases hb
  | a :: r, prev, seen, h, b, hb => by
    unfold chkL at h
    have hr : rc next prev a = 0 := by
      by_cases hc : rc next prev a = 0
      · exact hc
      · rw [if_pos hc] at h; exact h
    rw [if_neg (show ¬ rc next prev a ≠ 0 from fun e => e hr)] at h
    obtain ⟨_, h⟩ := if_zero (by decide) h
    rcases List.mem_cons.1 hb with e | e
    · subst e; exact rc_small hx hr
    · exact chkL_small hx r _ _ h b e
theorem chk_small {m : GManifest} (h : chk m = 0) : smallN (manNs m) ∧ ∀ b ∈ m.Blocks, smallN (blkNs b) := by
  unfold chk at h
  obtain ⟨h1, h⟩ := if_zero (by decide) h
  obtain ⟨h2, h⟩ := if_zero (by decide) h
  obtain ⟨h3, h⟩ := if_zero (by decide) h
  obtain ⟨h4, h⟩ := if_zero (by decide) h
  obtain ⟨h5, h⟩ := if_zero (by decide) h
  obtain ⟨h6, h⟩ := if_zero (by decide) h
  obtain ⟨h7, h⟩ := if_zero (by decide) h
  obtain ⟨h8, h⟩ := if_zero (by decide) h
  refine ⟨fun x hx => ?_, chkL_small (by omega) _ _ _ h⟩
  simp only [manNs, List.mem_cons, List.not_mem_nil, or_false] at hx
  rcases hx with rfl | rfl | rfl <;> constructor <;> omega
theorem sub_mem {ws : List ByteArray} {a b : Nat} {w : ByteArray} (h : w ∈ (ws.take b).drop a) : w ∈ ws := List.mem_of_mem_take (List.mem_of_mem_drop h)
theorem getD_mem {ws : List ByteArray} {i : Nat} (h : i < ws.length) : ws.getD i bE ∈ ws := by
  rw [List.getD_eq_getElem?_getD, List.getElem?_eq_getElem h]; exact List.getElem_mem h
theorem d3 (a b c : Int) (h0 : 0 ≤ a) (h1 : a ≤ b) (h2 : b ≤ c) : (decide ((0 : Int) ≤ a) && decide (a ≤ b) && decide (b ≤ c)) = true := by
  rw [decide_eq_true h0, decide_eq_true h1, decide_eq_true h2]; rfl
def smallM (r : GManifest × Bool) : Prop := r.1.Log.size ≤ 100000 ∧ ∀ b ∈ r.1.Blocks, b.File.size ≤ 100000
theorem smallZ (b : Bool) : smallM (zM, b) := ⟨by show bE.size ≤ _; rw [show bE.size = 0 from rfl]; omega, fun b hb => by cases hb⟩
theorem rparse_tot (n : Nat) (hn : 100020 ≤ n) : ∀ (m : Nat) (s : ByteArray) (i1 i2 i3 : Int) (lg : ByteArray) (l1 : List GBlockRef), s.size < m → l1.length + s.size ≤ 100000 → lg.size ≤ 100000 → (∀ b ∈ l1, b.File.size ≤ 100000) →
    ∃ r, lookoutref24_parse_l0 n m s i1 i2 i3 lg l1 = some r ∧ smallM r
  | 0, s, _, _, _, _, _, h, _, _, _ => by omega
  | m + 1, s, i1, i2, i3, lg, l1, h, hl, hlg, hf => by
    unfold lookoutref24_parse_l0
    cases hc : sNe s bE with
    | false => exact ⟨_, rfl, hlg, hf⟩
    | true =>
      rw [cond_true, rwords_eq n s (by omega) (by omega), Option.bind_some]
      obtain ⟨a, b, c⟩ := wd_small 100000 (ky s) [] bE (fun w hw => by cases hw) (by rw [show bE.size = 0 from rfl, ky_len]; omega)
      generalize wd (ky s) [] bE = W at a b c
      obtain ⟨ws, rest, ok⟩ := W
      simp only at a b c ⊢
      cases ok with
      | false => exact ⟨_, rfl, smallZ _⟩
      | true =>
        have hlt := c rfl
        rw [ky_len] at hlt
        rw [Bool.not_true, cond_false]
        by_cases h7 : ws.length = 7
        · have e7 : ((ws.length : Int) != 7) = false := by rw [h7]; rfl
          rw [bff e7, btt (d3 1 6 _ (by omega) (by omega) (by omega)), numbers_eq n _ (fun w hw => a w (sub_mem hw)) (by rw [List.length_drop, List.length_take]; omega) (by omega), Option.bind_some]
          have hlen := numsP_len (List.drop 1 (List.take 6 ws)) []
          generalize numsP [] (List.drop 1 (List.take 6 ws)) = R at hlen
          obtain ⟨ns, ok2⟩ := R
          cases ok2 with
          | false => exact ⟨_, rfl, smallZ _⟩
          | true =>
            have hns : ns.length = 5 := by
              have := hlen rfl
              simp only [List.length_nil, List.length_drop, List.length_take] at this
              omega
            simp only [Bool.not_true, cond_false]
            rw [btt (dz 0 ns.length (by omega) (by omega)), btt (dz 1 ns.length (by omega) (by omega)), btt (dz 2 ns.length (by omega) (by omega)), btt (dz 3 ns.length (by omega) (by omega)), btt (dz 4 ns.length (by omega) (by omega)), btt (dz 6 ws.length (by omega) (by omega)), btt (app_ok (b := 56) (by omega) (by omega))]
            refine rparse_tot n hn m (ofL rest) i1 i2 i3 lg _ (by rw [ofL_size]; omega) (by rw [ofL_size, List.length_append, List.length_cons, List.length_nil]; omega) hlg (fun b hb => ?_)
            rcases List.mem_append.1 hb with hb | hb
            · exact hf b hb
            · have := List.mem_singleton.1 hb
              subst this
              exact a _ (getD_mem (by omega))
        · have e7 : ((ws.length : Int) != 7) = true := by rw [bne_iff_ne]; omega
          rw [btt e7]
          exact ⟨_, rfl, smallZ _⟩
theorem rparse_all (n : Nat) (s : ByteArray) (hs : s.size ≤ 90000) (hn : 100030 ≤ n) : ∃ r, lookoutref24_parse n s = some r ∧ smallM r := by
  obtain ⟨m, rfl⟩ : ∃ m, n = m + 1 := ⟨n - 1, by omega⟩
  unfold lookoutref24_parse
  simp only
  rw [rwords_eq m s (by omega) (by omega), Option.bind_some]
  obtain ⟨a, b, c⟩ := wd_small 100000 (ky s) [] bE (fun w hw => by cases hw) (by rw [show bE.size = 0 from rfl, ky_len]; omega)
  generalize wd (ky s) [] bE = W at a b c
  obtain ⟨ws, rest, ok⟩ := W
  simp only at a b c ⊢
  cases ok with
  | false => exact ⟨_, rfl, smallZ _⟩
  | true =>
    have hlt := c rfl
    rw [ky_len] at hlt
    rw [Bool.not_true, cond_false]
    by_cases h7 : ws.length = 5
    · have e7 : ((ws.length : Int) != 5) = false := by rw [h7]; rfl
      rw [bff e7, btt (d3 1 4 _ (by omega) (by omega) (by omega)), numbers_eq m _ (fun w hw => a w (sub_mem hw)) (by rw [List.length_drop, List.length_take]; omega) (by omega), Option.bind_some]
      have hlen := numsP_len (List.drop 1 (List.take 4 ws)) []
      generalize numsP [] (List.drop 1 (List.take 4 ws)) = R at hlen
      obtain ⟨ns, ok2⟩ := R
      cases ok2 with
      | false => exact ⟨_, rfl, smallZ _⟩
      | true =>
        have hns : ns.length = 3 := by
          have := hlen rfl
          simp only [List.length_nil, List.length_drop, List.length_take] at this
          omega
        simp only [Bool.not_true, cond_false]
        rw [btt (dz 0 ns.length (by omega) (by omega)), btt (dz 1 ns.length (by omega) (by omega)), btt (dz 2 ns.length (by omega) (by omega)), btt (dz 4 ws.length (by omega) (by omega))]
        exact rparse_tot m (by omega) m (ofL rest) _ _ _ _ [] (by rw [ofL_size]; omega) (by rw [ofL_size, List.length_nil]; omega) (a _ (getD_mem (by omega))) (fun b hb => by cases hb)
    · have e7 : ((ws.length : Int) != 5) = true := by rw [bne_iff_ne]; omega
      rw [btt e7]
      exact ⟨_, rfl, smallZ _⟩
theorem rparse_can0 (n : Nat) (hn : 100020 ≤ n) : ∀ (bs : List GBlockRef) (m : Nat) (i1 i2 i3 : Int) (lg : ByteArray) (l1 : List GBlockRef), bs.length < m → (∀ b ∈ bs, goodB b) → (∀ b ∈ bs, smallN (blkNs b)) → l1.length + bs.length ≤ 100 →
    lookoutref24_parse_l0 n m (ofL (blksT bs)) i1 i2 i3 lg l1 = some (⟨i1, i2, i3, lg, l1 ++ bs⟩, true)
  | bs, 0, _, _, _, _, _, h, _, _, _ => by omega
  | [], m + 1, i1, i2, i3, lg, l1, _, _, _, _ => by
    unfold lookoutref24_parse_l0
    have hc : sNe (ofL (blksT [])) bE = false := by rw [sNe_eq]; rfl
    rw [bff hc, List.append_nil]; rfl
  | b :: r, m + 1, i1, i2, i3, lg, l1, hm, hg, hsm, hl => by
    have hb := hg b (.head _)
    have hs := hsm b (.head _)
    have hlen := blksT_len (b :: r) hg
    have hl' : l1.length + (r.length + 1) ≤ 100 := hl
    simp only [List.length_cons] at hlen hm
    have e : blksT (b :: r) = lnW blkL (blkNs b) b.File ++ 10 :: blksT r := by simp [blksT, blkT, lnT]
    have hw := wd_line (blkNs b) blkL b.File (blksT r) [] (by decide) (by decide) hb.2.1 hb.2.2.1 hb.1
    have hc : sNe (ofL (blksT (b :: r))) bE = true := by rw [sNe_eq, decide_eq_false (blks_ne b r)]; rfl
    unfold lookoutref24_parse_l0
    rw [btt hc, rwords_eq n _ (by rw [ofL_size]; omega) (by rw [ofL_size]; omega), Option.bind_some, ky_ofL, e, hw]
    simp only [Bool.not_true, cond_false]
    have h7 : (([] ++ ofL blkL :: ((blkNs b).map (fun x => ofL (itoa x)) ++ [b.File])).length : Int) = 7 := rfl
    have htd : List.drop 1 (List.take 6 ([] ++ ofL blkL :: ((blkNs b).map (fun x => ofL (itoa x)) ++ [b.File]))) = (blkNs b).map (fun x => ofL (itoa x)) := rfl
    have h6 : ([] ++ ofL blkL :: ((blkNs b).map (fun x => ofL (itoa x)) ++ [b.File])).getD 6 bE = b.File := rfl
    have hsz : ∀ w ∈ (blkNs b).map (fun x => ofL (itoa x)), w.size ≤ 100000 := fun w hw => by
      obtain ⟨x, hx, rfl⟩ := List.mem_map.1 hw
      have := itoa_len (hb.1 x hx).1 (hb.1 x hx).2
      rw [ofL_size]; omega
    rw [h7, htd, h6, numbers_eq n _ hsz (by simp [blkNs]) (by omega), Option.bind_some]
    have hR := numsP_itoa (blkNs b) [] hs
    generalize numsP [] ((blkNs b).map (fun x => ofL (itoa x))) = R at hR
    obtain ⟨ns, ok⟩ := R
    obtain ⟨hns, rfl⟩ := Prod.mk.inj hR
    rw [List.nil_append] at hns
    have h5 : ns.length = 5 := by rw [hns]; rfl
    simp only [Bool.not_true, cond_false]
    have g1 : (true && (decide ((l1.length + 1) * 56 ≤ 140737488355328) && decide (l1.length + 1 ≤ 9223372036854775807))) = true := app_ok (b := 56) (by omega) (by omega)
    rw [show ((7 : Int) != 7) = false from rfl, cond_false, btt (d3 1 6 7 (by omega) (by omega) (by omega)), btt (dz 0 ns.length (by omega) (by omega)), btt (dz 1 ns.length (by omega) (by omega)), btt (dz 2 ns.length (by omega) (by omega)), btt (dz 3 ns.length (by omega) (by omega)), btt (dz 4 ns.length (by omega) (by omega)), g1, cond_true]
    subst hns
    refine (rparse_can0 n hn r m i1 i2 i3 lg (l1 ++ [b]) (by omega) (fun x hx => hg x (.tail _ hx)) (fun x hx => hsm x (.tail _ hx)) (by simp; omega)).trans ?_
    simp
theorem rparse_can (n : Nat) (m : GManifest) (hg : goodM m) (hs1 : smallN (manNs m)) (hs2 : ∀ b ∈ m.Blocks, smallN (blkNs b)) (hn : 100030 ≤ n) : lookoutref24_parse n (ofL (txt m)) = some (m, true) := by
  obtain ⟨k, rfl⟩ : ∃ k, n = k + 1 := ⟨n - 1, by omega⟩
  have hlen := txt_len hg
  have hbl := hg.2.2.1
  have e : txt m = lnW manL (manNs m) m.Log ++ 10 :: blksT m.Blocks := by simp [txt, lnT]
  have hw := wd_line (manNs m) manL m.Log (blksT m.Blocks) [] (by decide) (by decide) hg.2.1.1 hg.2.1.2.1 hg.1
  unfold lookoutref24_parse
  simp only
  rw [rwords_eq k _ (by rw [ofL_size]; omega) (by rw [ofL_size]; omega), Option.bind_some, ky_ofL, e, hw]
  simp only [Bool.not_true, cond_false]
  have h7 : (([] ++ ofL manL :: ((manNs m).map (fun x => ofL (itoa x)) ++ [m.Log])).length : Int) = 5 := rfl
  have htd : List.drop 1 (List.take 4 ([] ++ ofL manL :: ((manNs m).map (fun x => ofL (itoa x)) ++ [m.Log]))) = (manNs m).map (fun x => ofL (itoa x)) := rfl
  have h6 : ([] ++ ofL manL :: ((manNs m).map (fun x => ofL (itoa x)) ++ [m.Log])).getD 4 bE = m.Log := rfl
  have hsz : ∀ w ∈ (manNs m).map (fun x => ofL (itoa x)), w.size ≤ 100000 := fun w hw => by
    obtain ⟨x, hx, rfl⟩ := List.mem_map.1 hw
    have := itoa_len (hg.1 x hx).1 (hg.1 x hx).2
    rw [ofL_size]; omega
  rw [h7, htd, h6, numbers_eq k _ hsz (by simp [manNs]) (by omega), Option.bind_some]
  have hR := numsP_itoa (manNs m) [] hs1
  generalize numsP [] ((manNs m).map (fun x => ofL (itoa x))) = R at hR
  obtain ⟨ns, ok⟩ := R
  obtain ⟨hns, rfl⟩ := Prod.mk.inj hR
  rw [List.nil_append] at hns
  have h5 : ns.length = 3 := by rw [hns]; rfl
  simp only [Bool.not_true, cond_false]
  rw [show ((5 : Int) != 5) = false from rfl, cond_false, btt (d3 1 4 5 (by omega) (by omega) (by omega)), btt (dz 0 ns.length (by omega) (by omega)), btt (dz 1 ns.length (by omega) (by omega)), btt (dz 2 ns.length (by omega) (by omega))]
  subst hns
  exact rparse_can0 k (by omega) m.Blocks k m.Version m.Next m.RawFrom m.Log [] (by omega) hg.2.2.2 hs2 (by simp; omega)
/-! ### Decode -/
theorem sealed_pre (t : ByteArray) : (sealed t).extract 0 t.size = t := by
  apply ky_inj
  rw [ky_ext, List.drop_zero]
  unfold sealed
  rw [ky_app, ← ky_len, List.take_left']
  rfl
theorem opened_sealed (t : ByteArray) : opened (sealed t) = some t := by
  have h := seal_size t
  have h4 : (sealed t).size - 4 = t.size := by omega
  unfold opened
  rw [h4, sealed_pre, if_pos ⟨by omega, rfl⟩]
theorem opened_some {s t : ByteArray} (h : opened s = some t) : s = sealed t := by
  unfold opened at h
  split at h
  · rename_i hc
    cases h
    exact hc.2.symm
  · cases h
theorem sealed_inj {a b : ByteArray} (h : sealed a = sealed b) : a = b := by
  have := opened_sealed a
  rw [h, opened_sealed] at this
  exact (Option.some.inj this).symm
theorem dec_sealed (n : Nat) (m : GManifest) (hc : chk m = 0) (hn : 200000 ≤ n) : manifest_Decode n (sealed (ofL (txt m))) = some (m, 0) ∧ lookoutref24_Decode n (sealed (ofL (txt m))) = some (m, 0) := by
  obtain ⟨k, rfl⟩ : ∃ k, n = k + 1 := ⟨n - 1, by omega⟩
  have hg := chk_good hc
  obtain ⟨hs1, hs2⟩ := chk_small hc
  have hlen := txt_len hg
  have hsz : (ofL (txt m)).size = (txt m).length := ofL_size _
  have hss := seal_size (ofL (txt m))
  constructor
  · unfold manifest_Decode
    simp only
    rw [open_eq k _ (by omega) (by omega), Option.bind_some, opened_sealed]
    simp only
    rw [show ((0 : Int) != 0) = false from rfl, cond_false, parse_can k m hg (by omega), Option.bind_some]
    simp only [Bool.not_true, cond_false]
    rw [encode_eq k m (by omega), Option.bind_some, encd, if_neg (show ¬ chk m ≠ 0 from fun h => h hc)]
    simp only
    rw [show ((0 : Int) != 0) = false from rfl, cond_false, sNe_eq, decide_eq_true rfl]; rfl
  · unfold lookoutref24_Decode
    simp only
    rw [ropen_eq k _ (by omega) (by omega), Option.bind_some, opened_sealed]
    simp only
    rw [show ((0 : Int) != 0) = false from rfl, cond_false, rparse_can k m hg hs1 hs2 (by omega), Option.bind_some]
    simp only [Bool.not_true, cond_false]
    have hlg := hg.2.1.2.2
    rw [rcheck_eq k m (by omega) ⟨by omega, by omega⟩ (fun b hb => by have := (hg.2.2.2 b hb).2.2.2; omega), Option.bind_some, hc, show ((0 : Int) != 0) = false from rfl, cond_false, rlines_eq k m hg (by omega), Option.bind_some, sNe_eq, decide_eq_true rfl]; rfl
theorem decode_both (n : Nat) (s : ByteArray) (hs : s.size ≤ 80000) (hn : 200000 ≤ n) : ∃ r, manifest_Decode n s = some r ∧ lookoutref24_Decode n s = some r ∧ (r.2 = 0 → chk r.1 = 0 ∧ s = sealed (ofL (txt r.1))) ∧ (r.2 ≠ 0 → r.1 = zM) := by
  cases ho : opened s with
  | none =>
    obtain ⟨k, rfl⟩ : ∃ k, n = k + 1 := ⟨n - 1, by omega⟩
    have hne : (if s.size < 4 then (11 : Int) else 13) ≠ 0 := by split <;> decide
    have hb : ((if s.size < 4 then (11 : Int) else 13) != 0) = true := by rw [bne_iff_ne]; exact hne
    refine ⟨(zM, if s.size < 4 then 11 else 13), ?_, ?_, fun h => absurd h hne, fun _ => rfl⟩
    · unfold manifest_Decode
      simp only
      rw [open_eq k _ (by omega) (by omega), Option.bind_some, ho]
      simp only
      rw [hb]; rfl
    · unfold lookoutref24_Decode
      simp only
      rw [ropen_eq k _ (by omega) (by omega), Option.bind_some, ho]
      simp only
      rw [hb]; rfl
  | some t =>
    have hst := opened_some ho
    have hss := seal_size t
    rw [← hst] at hss
    by_cases hex : ∃ m, chk m = 0 ∧ ofL (txt m) = t
    · obtain ⟨m, hc, rfl⟩ := hex
      obtain ⟨h1, h2⟩ := dec_sealed n m hc hn
      rw [hst]
      exact ⟨(m, 0), h1, h2, fun _ => ⟨hc, rfl⟩, fun h => absurd rfl h⟩
    · obtain ⟨k, rfl⟩ : ∃ k, n = k + 1 := ⟨n - 1, by omega⟩
      refine ⟨(zM, 12), ?_, ?_, fun h => absurd h (by decide), fun _ => rfl⟩
      · unfold manifest_Decode
        simp only
        rw [open_eq k _ (by omega) (by omega), Option.bind_some, ho]
        simp only
        rw [show ((0 : Int) != 0) = false from rfl, cond_false]
        obtain ⟨⟨m, ok⟩, hp⟩ := parse_tot k t (by omega) (by omega)
        rw [hp, Option.bind_some]
        cases ok with
        | false => rfl
        | true =>
          simp only [Bool.not_true, cond_false]
          rw [encode_eq k m (by omega), Option.bind_some, encd]
          by_cases hc : chk m = 0
          · rw [if_neg (show ¬ chk m ≠ 0 from fun h => h hc)]
            simp only
            have hne : ¬ sealed (ofL (txt m)) = s := fun h => hex ⟨m, hc, sealed_inj (h.trans hst)⟩
            rw [show ((0 : Int) != 0) = false from rfl, cond_false, sNe_eq, decide_eq_false hne]; rfl
          · rw [if_pos (show chk m ≠ 0 from hc)]; rfl
      · unfold lookoutref24_Decode
        simp only
        rw [ropen_eq k _ (by omega) (by omega), Option.bind_some, ho]
        simp only
        rw [show ((0 : Int) != 0) = false from rfl, cond_false]
        obtain ⟨⟨m, ok⟩, hp, hsm⟩ := rparse_all k t (by omega) (by omega)
        rw [hp, Option.bind_some]
        cases ok with
        | false => rfl
        | true =>
          simp only [Bool.not_true, cond_false]
          have h1 : m.Log.size ≤ 100000 := hsm.1
          rw [rcheck_eq k m (by omega) ⟨by omega, by omega⟩ (fun b hb => by have : b.File.size ≤ 100000 := hsm.2 b hb; omega), Option.bind_some]
          by_cases hc : chk m = 0
          · have hg := chk_good hc
            have hne : ¬ ofL (txt m) = t := fun h => hex ⟨m, hc, h⟩
            rw [hc, show ((0 : Int) != 0) = false from rfl, cond_false, rlines_eq k m hg (by omega), Option.bind_some, sNe_eq, decide_eq_false hne]; rfl
          · have hb : (chk m != 0) = true := by rw [bne_iff_ne]; exact hc
            rw [hb]; rfl
end Go.Proofs.YtomalcfghdaghaaDoor
