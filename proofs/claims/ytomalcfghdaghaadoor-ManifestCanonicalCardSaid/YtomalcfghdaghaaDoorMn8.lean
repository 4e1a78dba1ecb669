/- Plain laws of the manifest, 8: the two laws. -/
import Derived.Test.YtomalcfghdaghaaDoorMn7
import Derived.Test.YtomalcfghdaghaaDoorWf
set_option linter.unusedVariables false
set_option linter.unusedSimpArgs false
namespace Go.Proofs.YtomalcfghdaghaaDoor
open Go Go.AM Go.Lib
theorem same_l0 (n : Nat) (m : GManifest) (hl : m.Blocks.length ≤ 1000) : ∀ (k i f : Nat), i + k = m.Blocks.length → k < f → lookoutref24_Same_l0 n m m f (i : Int) = some true
  | k, i, 0, _, h => by omega
  | 0, i, f + 1, h, _ => by
    have h1 : ¬ ((i : Int) < (m.Blocks.length : Int)) := by omega
    unfold lookoutref24_Same_l0
    rw [bzn h1]
  | k + 1, i, f + 1, h, h1 => by
    have hx : i < m.Blocks.length := by omega
    have h2 : ((i : Int) < (m.Blocks.length : Int)) := by omega
    unfold lookoutref24_Same_l0
    rw [bz h2, dec_in i _ hx, cond_true, cond_true, toNat_c]
    simp only [beqS, decide_true, beq_self_eq_true, Bool.and_self, Bool.not_true, cond_false]
    rw [wr1 i (by omega)]
    exact same_l0 n m hl k (i + 1) f (by omega) (by omega)
theorem same_eq (n : Nat) (m : GManifest) (hl : m.Blocks.length ≤ 1000) (hn : 1100 ≤ n) : lookoutref24_Same n m m = some true := by
  obtain ⟨k, rfl⟩ : ∃ k, n = k + 1 := ⟨n - 1, by omega⟩
  unfold lookoutref24_Same
  simp only [bne_self_eq_false, cond_false, sNe_eq, decide_true, Bool.not_true]
  exact same_l0 k m hl m.Blocks.length 0 k (by omega) (by omega)
/-! ### The sample -/
def smp : GManifest := ⟨1, 3, 0, (⟨#[119, 97, 108, 46, 49]⟩ : ByteArray), [(⟨2, 0, (⟨#[98, 108, 111, 99, 107, 46, 50]⟩ : ByteArray), 5, 9, 100⟩ : GBlockRef)]⟩
def smpT : List UInt8 := [109, 97, 110, 105, 102, 101, 115, 116, 32, 49, 32, 51, 32, 48, 32, 119, 97, 108, 46, 49, 10, 98, 108, 111, 99, 107, 32, 50, 32, 48, 32, 53, 32, 57, 32, 49, 48, 48, 32, 98, 108, 111, 99, 107, 46, 50, 10]
theorem smp_chk : chk smp = 0 := by kernel_rfl
theorem smp_txt : txt smp = smpT := by
  have h0 : itoa 0 = [48] := by show decDigits 0 = _; rw [decDigits_one (by decide)]; rfl
  have h1 : itoa 1 = [49] := by show decDigits 1 = _; rw [decDigits_one (by decide)]; rfl
  have h2 : itoa 2 = [50] := by show decDigits 2 = _; rw [decDigits_one (by decide)]; rfl
  have h3 : itoa 3 = [51] := by show decDigits 3 = _; rw [decDigits_one (by decide)]; rfl
  have h5 : itoa 5 = [53] := by show decDigits 5 = _; rw [decDigits_one (by decide)]; rfl
  have h9 : itoa 9 = [57] := by show decDigits 9 = _; rw [decDigits_one (by decide)]; rfl
  have h100 : itoa 100 = [49, 48, 48] := by
    show decDigits 100 = _
    rw [decDigits, dif_neg (by decide), show 100 / 10 = 10 from rfl, decDigits_two (by decide) (by decide)]; rfl
  simp only [txt, smp, manNs, blksT, blkT, blkNs, lnT, lnW, nsT, h0, h1, h2, h3, h5, h9, h100]
  rfl
theorem awake_eq (n : Nat) (hn : 200100 ≤ n) : lookoutlaw24_awake n = some true := by
  obtain ⟨k, rfl⟩ : ∃ k, n = k + 1 := ⟨n - 1, by omega⟩
  obtain ⟨j, rfl⟩ : ∃ j, k = j + 1 := ⟨k - 1, by omega⟩
  have hs : lookoutlaw24_sample (j + 1) = some smp := rfl
  have hsz : (ofL (txt smp)).size = 47 := by rw [smp_txt, ofL_size]; rfl
  have hss := seal_size (ofL (txt smp))
  have hpre := sealed_pre (ofL (txt smp))
  rw [hsz] at hpre hss
  unfold lookoutlaw24_awake
  simp only
  rw [hs, Option.bind_some, encode_eq (j + 1) smp (by omega), Option.bind_some, encd, if_neg (show ¬ chk smp ≠ 0 from fun h => h smp_chk)]
  simp only
  rw [(dec_sealed (j + 1) smp smp_chk (by omega)).1, Option.bind_some]
  simp only
  have e51 : (((sealed (ofL (txt smp))).size : Int) == 51) = true := by rw [beq_iff_eq, hss]; rfl
  have e0 : ((0 : Int) == 0) = true := rfl
  rw [e0, cond_true, cond_true, e51, cond_true, btt (d3 0 47 _ (by omega) (by omega) (by omega)), hpre]
  have et : sEq (ofL (txt smp)) (⟨#[109, 97, 110, 105, 102, 101, 115, 116, 32, 49, 32, 51, 32, 48, 32, 119, 97, 108, 46, 49, 10, 98, 108, 111, 99, 107, 32, 50, 32, 48, 32, 53, 32, 57, 32, 49, 48, 48, 32, 98, 108, 111, 99, 107, 46, 50, 10]⟩ : ByteArray) = true := by
    rw [sEq_eq, smp_txt]; exact decide_eq_true rfl
  rw [et, cond_true, Option.bind_some, same_eq (j + 1) smp (by decide) (by omega)]
  rfl
theorem files_bound : ∀ bs : List GBlockRef, ∃ B : Nat, ∀ b ∈ bs, b.File.size ≤ B
  | [] => ⟨0, fun b hb => by cases hb⟩
  | a :: r => by
    obtain ⟨B, h⟩ := files_bound r
    exact ⟨B + a.File.size, fun b hb => by
      rcases List.mem_cons.1 hb with e | e
      · subst e; omega
      · have := h b e; omega⟩
theorem zM_len : zM.Blocks.length ≤ 1000 := by decide
theorem good_len {m : GManifest} (h : chk m = 0) : m.Blocks.length ≤ 1000 := by have := (chk_good h).2.2.1; omega
theorem encode_law (x0 : GManifest) (x1 : ByteArray) (h0 : wfGManifest x0) : ∃ n, lookoutlaw24_ManifestEncode n x0 x1 = some true := by
  obtain ⟨B, hB⟩ := files_bound x0.Blocks
  have hlg : x0.Log.size ≤ 9223372036854775807 := h0.2.2.2.1
  have hfs : ∀ b ∈ x0.Blocks, b.File.size ≤ 9223372036854775807 := fun b hb => (h0.2.2.2.2.1.2 b hb).2.2.1
  refine ⟨B + x0.Log.size + 300000 + 1, ?_⟩
  have hg1 : ∀ b ∈ x0.Blocks, b.File.size + 600 ≤ B + x0.Log.size + 300000 ∧ b.File.size ≤ 9223372036854775807 := fun b hb => ⟨by have := hB b hb; omega, hfs b hb⟩
  generalize hN : B + x0.Log.size + 300000 = N at hg1
  have aw := awake_eq N (by omega)
  have gr : ∃ b, lookoutref24_Great N x0 = some b := by
    obtain ⟨k, rfl⟩ : ∃ k, N = k + 1 := ⟨N - 1, by omega⟩
    unfold lookoutref24_Great
    simp only
    cases decide ((x0.Blocks.length : Int) > 12) <;> exact ⟨_, rfl⟩
  obtain ⟨g, gr⟩ := gr
  unfold lookoutlaw24_ManifestEncode
  simp only
  rw [gr, Option.bind_some]
  cases g with
  | true => rw [cond_true, aw]; rfl
  | false =>
    rw [cond_false]
    by_cases h1 : (x1.size : Int) > 1000
    · rw [bz h1, aw]; rfl
    · obtain ⟨r, d1, d2, d3', d4⟩ := decode_both N x1 (by omega) (by omega)
      have hsame : lookoutref24_Same N r.1 r.1 = some true := by
        by_cases hr : r.2 = 0
        · exact same_eq N r.1 (good_len (d3' hr).1) (by omega)
        · rw [d4 hr]; exact same_eq N zM zM_len (by omega)
      rw [bzn h1, encode_eq N x0 (by omega), Option.bind_some, rencode_eq N x0 (by omega) ⟨by omega, hlg⟩ hg1, Option.bind_some, d1, Option.bind_some, d2, Option.bind_some, check_eq N x0 (by omega), Option.bind_some, rcheck_eq N x0 (by omega) ⟨by omega, hlg⟩ (fun b hb => ⟨by have := (hg1 b hb).1; omega, (hg1 b hb).2⟩), Option.bind_some]
      simp only [beq_self_eq_true, cond_true, sEq_eq, decide_true]
      rw [hsame, Option.bind_some, cond_true, aw]; rfl
theorem canonical_law (x0 : GManifest) (x1 : ByteArray) (h0 : wfGManifest x0) : ∃ n, lookoutlaw24_ManifestCanonical n x0 x1 = some true := by
  refine ⟨300000 + 1, ?_⟩
  generalize hN : 300000 = N
  have aw := awake_eq N (by omega)
  have gr : ∃ b, lookoutref24_Great N x0 = some b := by
    obtain ⟨k, rfl⟩ : ∃ k, N = k + 1 := ⟨N - 1, by omega⟩
    unfold lookoutref24_Great
    simp only
    cases decide ((x0.Blocks.length : Int) > 12) <;> exact ⟨_, rfl⟩
  obtain ⟨g, gr⟩ := gr
  unfold lookoutlaw24_ManifestCanonical
  simp only
  rw [gr, Option.bind_some]
  cases g with
  | true => rw [cond_true, aw]; rfl
  | false =>
    rw [cond_false]
    by_cases h1 : (x1.size : Int) > 1000
    · rw [bz h1, aw]; rfl
    · obtain ⟨r, d1, _, d3', d4⟩ := decode_both N x1 (by omega) (by omega)
      have tail : ((manifest_Decode N x1).bind fun r8 => ((manifest_Encode N r8.1).bind fun r9 => (bif (r8.2 != 0) then ((lookoutref24_Same N r8.1 (⟨0, 0, 0, bE, []⟩ : GManifest)).bind fun r10 => (bif r10 then ((lookoutlaw24_awake N).bind fun r11 => (some r11)) else (bif (r8.2 == 0) then (bif (r9.2 == 0) then (bif (sEq r9.1 x1) then ((lookoutlaw24_awake N).bind fun r12 => (some r12)) else (some false)) else (some false)) else (some false)))) else (bif (r8.2 == 0) then (bif (r9.2 == 0) then (bif (sEq r9.1 x1) then ((lookoutlaw24_awake N).bind fun r13 => (some r13)) else (some false)) else (some false)) else (some false))))) = some true := by
        rw [d1, Option.bind_some, encode_eq N r.1 (by omega), Option.bind_some]
        by_cases hr : r.2 = 0
        · obtain ⟨hc, hx⟩ := d3' hr
          rw [hr, show ((0 : Int) != 0) = false from rfl, cond_false, show ((0 : Int) == 0) = true from rfl, cond_true, encd, if_neg (show ¬ chk r.1 ≠ 0 from fun h => h hc)]
          simp only
          rw [show ((0 : Int) == 0) = true from rfl, cond_true, sEq_eq, decide_eq_true hx.symm, cond_true, aw]; rfl
        · have hb : (r.2 != 0) = true := by rw [bne_iff_ne]; exact hr
          rw [hb, cond_true, d4 hr]
          have := same_eq N zM zM_len (by omega)
          rw [show (⟨0, 0, 0, bE, []⟩ : GManifest) = zM from rfl, this, Option.bind_some, cond_true, aw]; rfl
      rw [bzn h1, encode_eq N x0 (by omega), Option.bind_some]
      by_cases hc : chk x0 = 0
      · rw [encd, if_neg (show ¬ chk x0 ≠ 0 from fun h => h hc)]
        simp only
        rw [(dec_sealed N x0 hc (by omega)).1, Option.bind_some]
        simp only
        rw [show ((0 : Int) == 0) = true from rfl, cond_true, show ((0 : Int) != 0) = false from rfl, cond_false, same_eq N x0 (good_len hc) (by omega), Option.bind_some, Bool.not_true, cond_false, check_eq N x0 (by omega), Option.bind_some, hc, show (!(true == ((0 : Int) == 0))) = false from rfl, cond_false]
        exact tail
      · obtain ⟨r2, e1, _, _, _⟩ := decode_both N bE (by rw [show bE.size = 0 from rfl]; omega) (by omega)
        have hb : (chk x0 == 0) = false := by rw [beq_eq_false_iff_ne]; exact hc
        rw [encd, if_pos (show chk x0 ≠ 0 from hc)]
        simp only
        rw [e1, Option.bind_some, show ((1 : Int) == 0) = false from rfl, cond_false, check_eq N x0 (by omega), Option.bind_some, hb, show (!(false == false)) = false from rfl, cond_false]
        exact tail
end Go.Proofs.YtomalcfghdaghaaDoor
