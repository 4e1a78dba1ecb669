/- Plain laws, 9: what the operations leave of sizes and power; DiskPower. -/
import Derived.Test.YtkignmhjbjgkoaaSp8
set_option linter.unusedVariables false
set_option linter.unusedSimpArgs false
namespace Go.Proofs.Ytkignmhjbjgkoaa
open Go Go.AM

/-- Sizes that an operation lets grow by one. -/
structure Bg (c : Nat) (d : GDisk) : Prop where
  dn : ∀ e ∈ d.Durable, e.Name.size ≤ 200
  pn : ∀ x ∈ d.Pending, x.Name.size + x.To.size ≤ 200
  dl : d.Durable.length + d.Pending.length ≤ c
  il : d.Inodes.length ≤ c
theorem Bg.bd {c : Nat} {d : GDisk} (h : Bg c d) (hc : c ≤ 200) : Bd 200 d := ⟨h.dn, h.pn, by have := h.dl; omega, by have := h.dl; omega, by have := h.il; omega, by omega⟩
theorem Bg.mono {c c' : Nat} {d : GDisk} (h : Bg c d) (hc : c ≤ c') : Bg c' d := ⟨h.dn, h.pn, by have := h.dl; omega, by have := h.il; omega⟩

theorem aft_len (N : Int) : ∀ (ops : List GDirOp) (l : Dir), (aft N ops l).1.length ≤ l.length + ops.length
  | [], l => by simp [aft]
  | x :: ops, l => by
    have h1 := ap_len N l x
    have ih := aft_len N ops (ap N l x).1
    simp only [aft, List.length_cons]
    cases (ap N l x).2 <;> simp only [cond_true, cond_false] <;> omega
theorem isNm_size {s : ByteArray} (h : isNm s = true) : s.size ≤ 60 := by
  simp only [isNm, Bool.and_eq_true, decide_eq_true_eq] at h; exact h.1.2

/-- What an operation may leave. -/
structure Out (c : Nat) (d : GDisk) (r : GDisk × Int) : Prop where
  ok : r.2 = 0 → d.Left ≠ 0 ∧ r.1.Left = (if d.Left > 0 then d.Left - 1 else d.Left) ∧ Bg (c + 1) r.1
  lost : r.2 = 19 → d.Left = 0 ∧ r.1 = d
  err : r.2 ≠ 0 → r.2 ≠ 19 → r.1 = ⟨[], [], [], 0⟩
theorem out_prf {c : Nat} {d next : GDisk} (h : Bg (c + 1) next) : Out c d (prf d next) := by
  unfold prf
  by_cases h0 : d.Left = 0
  · rw [if_pos h0]; exact ⟨fun e => (by cases e), fun _ => ⟨h0, rfl⟩, fun _ h => absurd rfl h⟩
  · rw [if_neg h0]; exact ⟨fun _ => ⟨h0, rfl, ⟨h.dn, h.pn, h.dl, h.il⟩⟩, fun e => (by cases e), fun h => absurd rfl h⟩
theorem out_no {c : Nat} {d : GDisk} {e : Int} (h0 : e ≠ 0) (h1 : e ≠ 19) : Out c d (no e) := ⟨fun h => absurd h h0, fun h => absurd h h1, fun _ _ => rfl⟩
theorem out_fnd {c : Nat} {d : GDisk} {name : ByteArray} (h : (fnd d name).2 ≠ 0) : Out c d (no (fnd d name).2) := by
  refine out_no h ?_
  rcases fnd_e d name with e | e | e <;> rw [e] <;> omega
theorem bg_chg {c : Nat} {d : GDisk} {i : Nat} {x : GInode} (h : Bg c d) : Bg (c + 1) (chg d i x) := ⟨h.dn, h.pn, by have := h.dl; simp only [chg]; omega, by have := h.il; simp only [chg, List.length_set]; omega⟩
theorem bg_pend {c : Nat} {d : GDisk} {x : GDirOp} {I : List GInode} (h : Bg c d) (hx : x.Name.size + x.To.size ≤ 200) (hI : I.length ≤ c + 1) : Bg (c + 1) ⟨I, d.Durable, d.Pending ++ [x], d.Left⟩ := by
  refine ⟨h.dn, fun y hy => ?_, ?_, hI⟩
  · rcases List.mem_append.1 hy with hy | hy
    · exact h.pn y hy
    · have := List.mem_singleton.1 hy; rw [this]; exact hx
  · have := h.dl; simp only [List.length_append, List.length_singleton]; omega

theorem do_out {c : Nat} {d : GDisk} (a : Glookoutlaw22_Act) (h : Bg c d) (hD : c ≤ 1000000) (h1 : a.Name.size ≤ 100) (h2 : a.To.size ≤ 100) : Out c d (doF d a) := by
  have hil := h.il; have hdl := h.dl
  have hb : bE.size = 0 := rfl
  unfold doF
  split
  · -- Create
    unfold crtF
    split
    · exact out_no (by omega) (by omega)
    · split
      · exact out_no (by omega) (by omega)
      · split
        · exact out_no (by omega) (by omega)
        · split
          · exact out_no (by omega) (by omega)
          · split
            · exact out_no (by omega) (by omega)
            · exact out_prf (bg_pend h (by simp only [hb]; omega) (by simp; omega))
  · split
    · unfold appF
      split
      · rename_i e; exact out_fnd e
      · split
        · exact out_no (by omega) (by omega)
        · exact out_prf (bg_chg h)
    · split
      · unfold synF
        split
        · rename_i e; exact out_fnd e
        · exact out_prf (bg_chg h)
      · split
        · unfold sdF
          split
          · exact out_no (by omega) (by omega)
          · rename_i hv
            have hv : valid d = true := by simpa using hv
            obtain ⟨f, t, hR⟩ := cur_rd hv (by omega)
            have hl : (cur d).1.length ≤ d.Durable.length + d.Pending.length := aft_len _ _ _
            have hal := acI_len d (cur d).1 d.Inodes.length 0
            have hrk := rnk_le (cur d).1 (0 + d.Inodes.length)
            refine out_prf ⟨fun e he => ?_, fun x hx => by simp at hx, by simp; omega, by simp only; omega⟩
            obtain ⟨e0, he0, rfl⟩ := List.mem_map.1 he
            have := isNm_size (hR.nms e0 he0)
            simp only [rnkE]; omega
        · split
          · unfold renF
            split
            · rename_i e; exact out_fnd e
            · split
              · exact out_no (by omega) (by omega)
              · split
                · exact out_no (by omega) (by omega)
                · split
                  · exact out_no (by omega) (by omega)
                  · exact out_prf (bg_pend h (by simp only; omega) (by omega))
          · split
            · unfold remF
              split
              · rename_i e; exact out_fnd e
              · split
                · exact out_no (by omega) (by omega)
                · exact out_prf (bg_pend h (by simp only [hb]; omega) (by omega))
            · unfold truF
              split
              · rename_i e; exact out_fnd e
              · split
                · exact out_no (by omega) (by omega)
                · split
                  · exact out_no (by omega) (by omega)
                  · exact out_prf (bg_chg h)

theorem out_len {c : Nat} {d : GDisk} {r : GDisk × Int} (h : Out c d r) (hd : Bg c d) : r.1.Pending.length ≤ c + 1 ∧ r.1.Durable.length ≤ c + 1 ∧ r.1.Inodes.length ≤ c + 1 := by
  by_cases h0 : r.2 = 0
  · have := (h.ok h0).2.2; have h1 := this.dl; have h2 := this.il; omega
  · by_cases h1 : r.2 = 19
    · rw [(h.lost h1).2]; have h1 := hd.dl; have h2 := hd.il; omega
    · rw [h.err h0 h1]; simp

theorem great_act (n : Nat) (a : Glookoutlaw22_Act) (hn : 1 ≤ n) : ∃ b, lookoutlaw22_great n a = some b ∧ (b = false → a.Name.size ≤ 100 ∧ a.To.size ≤ 100 ∧ a.Data.size ≤ 2000) := by
  obtain ⟨m, rfl⟩ : ∃ m, n = m + 1 := ⟨n - 1, by omega⟩
  by_cases c1 : (a.Name.size : Int) > 100
  · exact ⟨true, by simp only [lookoutlaw22_great, c1, decide_true, cond_true], fun h => by cases h⟩
  · by_cases c2 : (a.To.size : Int) > 100
    · exact ⟨true, by simp only [lookoutlaw22_great, c1, c2, decide_true, decide_false, cond_true, cond_false], fun h => by cases h⟩
    · refine ⟨decide ((a.Data.size : Int) > 2000), by simp only [lookoutlaw22_great, c1, c2, decide_false, cond_false], fun h => ?_⟩
      have := of_decide_eq_false h
      omega

theorem power_l0 (acts : List Glookoutlaw22_Act) : ∀ (k i m : Nat) (d : GDisk) (c : Nat), i + k = acts.length → acts.length ≤ 20 → Bg c d → c + k ≤ 150 → 0 ≤ d.Left → Lw d → k < m →
    lookoutlaw22_DiskPower_l0 9999 acts m d.Inodes d.Durable d.Pending d.Left d.Left (acts.length : Int) (i : Int) = some true
  | k, i, 0, _, _, _, _, _, _, _, _, h => by omega
  | 0, i, m + 1, d, c, h, _, _, _, _, _, _ => by
    have : ¬ ((i : Int) < (acts.length : Int)) := by omega
    simp only [lookoutlaw22_DiskPower_l0, lookoutlaw22_DiskPower_s3, this, decide_false, cond_false, awake_eq, Option.bind_some]
  | k + 1, i, m + 1, d, c, h, hl, hB, hc, hL, hw, h2 => by
    have hlt : (i : Int) < (acts.length : Int) := by omega
    have h0 : (0 : Int) ≤ (i : Int) := by omega
    obtain ⟨a, ha⟩ : ∃ a, acts.getD i dGlookoutlaw22_Act = a := ⟨_, rfl⟩
    obtain ⟨b, g1, g2⟩ := great_act 9999 a (by omega)
    have hdd : (⟨d.Inodes, d.Durable, d.Pending, d.Left⟩ : GDisk) = d := rfl
    simp only [lookoutlaw22_DiskPower_l0, lookoutlaw22_DiskPower_s1, lookoutlaw22_DiskPower_s2, hlt, h0, decide_true, Bool.and_true, cond_true, toNat_c, ha, g1, Option.bind_some, wr1 i (by omega), hdd, awake_eq]
    cases b with
    | true => rfl
    | false =>
      obtain ⟨s1, s2, s3⟩ := g2 rfl
      have hbd := hB.bd (by omega)
      have hdo := do_f 9999 200 d a hbd hw (by omega) (by omega)
      have hout := do_out (c := c) a hB (by omega) s1 s2
      have ih : ∀ (d' : GDisk) (c' : Nat), Bg c' d' → c' + k ≤ 150 → 0 ≤ d'.Left → Lw d' → lookoutlaw22_DiskPower_l0 9999 acts m d'.Inodes d'.Durable d'.Pending d'.Left d'.Left (acts.length : Int) ((i + 1 : Nat) : Int) = some true := fun d' c' h1 h2 h3 h4 => power_l0 acts k (i + 1) m d' c' (by omega) hl h1 h2 h3 h4 (by omega)
      simp only [cond_false, hdo, Option.bind_some]
      obtain ⟨r, hr⟩ : ∃ r, doF d a = r := ⟨_, rfl⟩
      rw [hr] at hout
      simp only [hr]
      have hw1 := hw.lo; have hw2 := hw.hi
      by_cases e0 : r.2 = 0
      · obtain ⟨q1, q2, q3⟩ := hout.ok e0
        have hpos : d.Left > 0 := by omega
        rw [if_pos hpos] at q2
        have hnl : r.1.Left = d.Left - 1 := q2
        simp only [e0, show ((0 : Int) != 0) = false by rfl, show ((0 : Int) == 0) = true by rfl, show ((0 : Int) == 19) = false by rfl, cond_false, cond_true, hpos, decide_true, beq_self_eq_true, Bool.not_true, wr (d.Left - 1) (by omega) (by omega), hnl, bne]
        have := ih r.1 (c + 1) q3 (by omega) (by omega) ⟨by omega, by omega⟩
        rw [hnl] at this
        exact this
      · have e0' : (r.2 != 0) = true := by simpa [bne] using e0
        have e0'' : (r.2 == 0) = false := by simpa using e0
        by_cases e1 : r.2 = 19
        · obtain ⟨q1, q2⟩ := hout.lost e1
          have hdl := hB.dl; have hil := hB.il
          simp only [e1, q1, q2, show ((19 : Int) != 0) = true by rfl, show ((19 : Int) != 19) = false by rfl, show ((19 : Int) == 0) = false by rfl, show ((19 : Int) == 19) = true by rfl, show decide ((0 : Int) > 0) = false by rfl, cond_true, cond_false, beq_self_eq_true, Bool.not_true, same_refl 9999 d (by omega) (by omega) (by omega) (by omega), Option.bind_some]
          have := ih d c hB (by omega) hL hw
          rw [q1] at this
          exact this
        · have e1' : (r.2 != 19) = true := by simpa [bne] using e1
          simp only [e0', e1', cond_true]
          exact ih d c hB (by omega) hL hw

theorem diskPower_law (d : GDisk) (acts : List Glookoutlaw22_Act) (hw : wfGDisk d) : ∃ n, lookoutlaw22_DiskPower n d acts = some true := by
  refine ⟨10000, ?_⟩
  have hwl : Lw d := by
    have h := hw.2.2.2.1
    simp only [wfInt, Lit.wf, Bool.and_eq_true, decide_eq_true_eq] at h
    exact ⟨h.1, h.2⟩
  obtain ⟨b, g1, g2⟩ := great_eq 9999 d (by omega) (by omega)
  show (lookoutref22_Great 9999 d).bind _ = _
  rw [g1]
  simp only [Option.bind_some, awake_eq]
  cases b with
  | true => rfl
  | false =>
    obtain ⟨hb, h1, h2, h3⟩ := g2 rfl
    simp only [cond_false]
    by_cases c1 : (acts.length : Int) > 20
    · simp only [c1, decide_true, cond_true]
    · simp only [c1, decide_false, cond_false, check_eq 9999 200 d hb (by omega), Option.bind_some]
      cases hv : valid d with
      | false => rfl
      | true =>
        simp only [cond_true, show ((0 : Int) != 0) = false by rfl, cond_false]
        by_cases c2 : d.Left < 0
        · simp only [c2, decide_true, cond_true]
        · simp only [c2, decide_false, cond_false]
          exact power_l0 acts acts.length 0 9999 d 80 (by omega) (by omega) ⟨hb.dn, hb.pn, by omega, by omega⟩ (by omega) (by omega) hwl (by omega)
end Go.Proofs.Ytkignmhjbjgkoaa
