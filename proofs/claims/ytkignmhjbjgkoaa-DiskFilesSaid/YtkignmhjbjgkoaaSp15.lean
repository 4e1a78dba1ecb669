/- Plain laws, 15: DiskFiles. -/
import Derived.Test.YtkignmhjbjgkoaaSp14
set_option linter.unusedVariables false
set_option linter.unusedSimpArgs false
namespace Go.Proofs.Ytkignmhjbjgkoaa
open Go Go.AM

theorem prf_ok {d next : GDisk} (h : (prf d next).2 = 0) : ∃ L, (prf d next).1 = ⟨next.Inodes, next.Durable, next.Pending, L⟩ := by
  unfold prf at h ⊢
  by_cases c : d.Left = 0
  · rw [if_pos c] at h; cases h
  · rw [if_neg c]; exact ⟨_, rfl⟩
theorem no_ok {e : Int} {P : Prop} (h : (no e).2 = 0) (he : e ≠ 0) : P := absurd h he
theorem crt_ok {d : GDisk} {name : ByteArray} (h : (crtF d name).2 = 0) : valid d = true ∧ lkE name (cur d).1 = none ∧ ∃ L, (crtF d name).1 = ⟨d.Inodes ++ [⟨bE, 0⟩], d.Durable, d.Pending ++ [⟨1, name, bE, (d.Inodes.length : Int)⟩], L⟩ := by
  unfold crtF at h ⊢
  by_cases c1 : valid d = false
  · rw [if_pos c1] at h; exact no_ok h (by omega)
  · rw [if_neg c1] at h ⊢
    by_cases c2 : isNm name = false
    · rw [if_pos c2] at h; exact no_ok h (by omega)
    · rw [if_neg c2] at h ⊢
      by_cases c3 : (lkE name (cur d).1).isNone = false
      · rw [if_pos c3] at h; exact no_ok h (by omega)
      · rw [if_neg c3] at h ⊢
        by_cases c4 : d.Inodes.length ≥ 1000
        · rw [if_pos c4] at h; exact no_ok h (by omega)
        · rw [if_neg c4] at h ⊢
          by_cases c5 : d.Pending.length ≥ 1000
          · rw [if_pos c5] at h; exact no_ok h (by omega)
          · rw [if_neg c5] at h ⊢
            refine ⟨by simpa using c1, ?_, prf_ok h⟩
            cases hl : lkE name (cur d).1 with
            | none => rfl
            | some i => rw [hl] at c3; simp at c3
theorem app_ok2 {d : GDisk} {name data : ByteArray} (h : (appF d name data).2 = 0) : (fnd d name).2 = 0 ∧ ∃ L, (appF d name data).1 = ⟨d.Inodes.set (ino d name) ⟨(file d name).Data ++ data, (file d name).Synced⟩, d.Durable, d.Pending, L⟩ := by
  unfold appF at h ⊢
  by_cases c : (fnd d name).2 = 0
  · rw [if_neg (by simp [c])] at h ⊢
    split at h
    · exact no_ok h (by omega)
    · rename_i c2; rw [if_neg c2]; exact ⟨c, prf_ok h⟩
  · rw [if_pos c] at h; exact no_ok h c
theorem rem_ok {d : GDisk} {name : ByteArray} (h : (remF d name).2 = 0) : (fnd d name).2 = 0 ∧ ∃ L, (remF d name).1 = ⟨d.Inodes, d.Durable, d.Pending ++ [⟨3, name, bE, 0⟩], L⟩ := by
  unfold remF at h ⊢
  by_cases c : (fnd d name).2 = 0
  · rw [if_neg (by simp [c])] at h ⊢
    split at h
    · exact no_ok h (by omega)
    · rename_i c2; rw [if_neg c2]; exact ⟨c, prf_ok h⟩
  · rw [if_pos c] at h; exact no_ok h c
theorem tru_ok {d : GDisk} {name : ByteArray} {size : Int} (h : (truF d name size).2 = 0) : (fnd d name).2 = 0 ∧ 0 ≤ size ∧ size ≤ ((file d name).Data.size : Int) ∧
    ∃ L, (truF d name size).1 = ⟨d.Inodes.set (ino d name) ⟨ByteArray.extract (file d name).Data 0 size.toNat, if size < (file d name).Synced then size else (file d name).Synced⟩, d.Durable, d.Pending, L⟩ := by
  unfold truF at h ⊢
  by_cases c : (fnd d name).2 = 0
  · rw [if_neg (by simp [c])] at h ⊢
    by_cases c1 : size < 0
    · rw [if_pos c1] at h; exact no_ok h (by omega)
    · rw [if_neg c1] at h ⊢
      by_cases c2 : size > ((file d name).Data.size : Int)
      · rw [if_pos c2] at h; exact no_ok h (by omega)
      · rw [if_neg c2] at h ⊢
        exact ⟨c, by omega, by omega, prf_ok h⟩
  · rw [if_pos c] at h; exact no_ok h c
theorem sd_ok {d : GDisk} (h : (sdF d).2 = 0) : valid d = true ∧ ∃ L, (sdF d).1 = ⟨acI d (cur d).1 0 d.Inodes.length, (cur d).1.map (rnkE (cur d).1), [], L⟩ := by
  unfold sdF at h ⊢
  by_cases c : valid d = false
  · rw [if_pos c] at h; exact no_ok h (by omega)
  · rw [if_neg c] at h ⊢; exact ⟨by simpa using c, prf_ok h⟩
theorem con_fnd {d : GDisk} {name : ByteArray} (h : (fnd d name).2 = 0) : con d name = some (file d name).Data := by
  obtain ⟨hv, hl⟩ := fnd_lk h
  rw [con_some hv hl]; rfl

theorem files_s0 {a : Glookoutlaw22_Act} {r : GDisk × Int} {b : Bool} {W : List (ByteArray × ByteArray)} (hb : Bd 200 r.1) (hW : (W.map (·.1)).Nodup) (h : ∀ q, con r.1 q = lk q W) (hk : b = true ∨ a.Kind = 1 ∨ a.Kind = 4) : lookoutlaw22_DiskFiles_s0 9999 a r b W = some true := by
  obtain ⟨X, f1, f2, f3⟩ := files_eq 9999 200 r.1 hb (by omega)
  have hX := files_len (by have := hb.dl; omega) f2 f3
  have heq := equal_eq 9999 f2 hW (fun q => by rw [f3, h]) (by omega)
  simp only [lookoutlaw22_DiskFiles_s0, f1, Option.bind_some, heq, cond_true, awake_eq]
  cases b with
  | true => rfl
  | false =>
    rcases hk with hk | hk | hk
    · cases hk
    · simp [hk]
    · simp [hk]

theorem diskFiles_law (d : GDisk) (a : Glookoutlaw22_Act) (hw : wfGDisk d) : ∃ n, lookoutlaw22_DiskFiles n d a = some true := by
  refine ⟨10000, ?_⟩
  obtain ⟨b, g1, g2⟩ := great_eq 9999 d (by omega) (by omega)
  obtain ⟨c, q1, q2⟩ := great_act 9999 a (by omega)
  show (lookoutref22_Great 9999 d).bind _ = _
  rw [g1]
  simp only [Option.bind_some, awake_eq]
  cases b with
  | true => rfl
  | false =>
    obtain ⟨hb, h1, h2, h3⟩ := g2 rfl
    simp only [cond_false, q1, Option.bind_some]
    cases c with
    | true => rfl
    | false =>
      obtain ⟨s1, s2, s3⟩ := q2 rfl
      have hbg := bg_of hb h1 h2 h3
      have hout := do_out a hbg (by omega) s1 s2
      have hD : d.Durable.length ≤ 1000000000 := by omega
      have hdv := (do_valid (d := d) a hD).1
      simp only [cond_false, do_f 9999 200 d a hb (lw_of hw) (by omega) (by omega), Option.bind_some]
      by_cases e0 : (doF d a).2 = 0
      · have e : ((doF d a).2 != 0) = false := by simp [e0]
        obtain ⟨F, f1, f2, f3⟩ := files_eq 9999 200 d hb (by omega)
        have hbx := (out_bg hout hbg).bd (by omega)
        have vx := (hdv (Or.inl e0)).2
        simp only [e, cond_false, f1, Option.bind_some]
        obtain ⟨r, hr⟩ : ∃ r, doF d a = r := ⟨_, rfl⟩
        rw [hr] at e0 hbx vx ⊢
        unfold doF at hr
        by_cases k1 : a.Kind = 1
        · rw [if_pos k1] at hr
          rw [← hr] at e0
          obtain ⟨hv, hl, L, hx⟩ := crt_ok e0
          rw [hr] at hx
          have hn : lk a.Name F = none := by rw [f3]; exact con_none hv hl
          simp only [k1, show ((1 : Int) == 1) = true by rfl, cond_true, hn, Option.isSome_none, cond_false]
          refine files_s0 hbx (nodup_put f2) (fun q => ?_) (.inr (.inl k1))
          rw [hx] at vx ⊢
          rw [con_crt hv hD hl vx, lk_put, f3]
          by_cases hq : q = a.Name <;> simp [hq]
        · have k1' : (a.Kind == 1) = false := by simpa using k1
          rw [if_neg k1] at hr
          simp only [k1', cond_false]
          by_cases k2 : a.Kind = 2
          · rw [if_pos k2] at hr
            rw [← hr] at e0
            obtain ⟨hf, L, hx⟩ := app_ok2 e0
            rw [hr] at hx
            have hn : lk a.Name F = some (file d a.Name).Data := by rw [f3]; exact con_fnd hf
            obtain ⟨o1, _, _, _, _, _⟩ := file_ok hD hf
            obtain ⟨p1, _, _⟩ := okI_spec o1
            simp only [k2, show ((2 : Int) == 2) = true by rfl, cond_true, hn, Option.getD_some, Option.isSome_some, show (file d a.Name).Data.size + a.Data.size ≤ 9223372036854775807 by omega, decide_true]
            refine files_s0 hbx (nodup_put f2) (fun q => ?_) (.inl rfl)
            rw [hx] at vx ⊢
            rw [con_chg hD hf vx, lk_put, f3]
            by_cases hq : q = a.Name <;> simp [hq]
          · have k2' : (a.Kind == 2) = false := by simpa using k2
            rw [if_neg k2] at hr
            simp only [k2', cond_false]
            by_cases k3 : a.Kind = 3
            · rw [if_pos k3] at hr
              rw [← hr] at e0
              obtain ⟨hf, L, hx⟩ := syn_ok e0
              rw [hr] at hx
              have hn : lk a.Name F = some (file d a.Name).Data := by rw [f3]; exact con_fnd hf
              simp only [k3, show ((3 : Int) == 3) = true by rfl, cond_true, hn, Option.isSome_some]
              refine files_s0 hbx f2 (fun q => ?_) (.inl rfl)
              rw [hx] at vx ⊢
              rw [con_chg hD hf vx, f3]
              by_cases hq : q = a.Name
              · rw [if_pos hq, hq, con_fnd hf]
              · rw [if_neg hq]
            · have k3' : (a.Kind == 3) = false := by simpa using k3
              rw [if_neg k3] at hr
              simp only [k3', cond_false]
              by_cases k4 : a.Kind = 4
              · rw [if_pos k4] at hr
                rw [← hr] at e0
                obtain ⟨hv, L, hx⟩ := sd_ok e0
                rw [hr] at hx
                simp only [k4, show ((4 : Int) == 4) = true by rfl, cond_true]
                refine files_s0 hbx f2 (fun q => ?_) (.inr (.inr k4))
                rw [hx] at vx ⊢
                rw [con_sd hv hD vx, f3]
              · have k4' : (a.Kind == 4) = false := by simpa using k4
                rw [if_neg k4] at hr
                simp only [k4', cond_false]
                by_cases k5 : a.Kind = 5
                · rw [if_pos k5] at hr
                  rw [← hr] at e0
                  obtain ⟨hf, hne, hnm, L, hx⟩ := ren_ok e0
                  rw [hr] at hx
                  have hn : lk a.Name F = some (file d a.Name).Data := by rw [f3]; exact con_fnd hf
                  simp only [k5, show ((5 : Int) == 5) = true by rfl, cond_true, hn, Option.getD_some, Option.isSome_some]
                  refine files_s0 hbx (nodup_put (nodup_del f2)) (fun q => ?_) (.inl rfl)
                  rw [hx] at vx ⊢
                  rw [con_ren hD hf hne hnm vx, lk_put, lk_del _ _ f2, f3]
                  by_cases hq : q = a.To
                  · simp [hq, con_fnd hf]
                  · by_cases hq2 : q = a.Name
                    · simp [hq2, Ne.symm hne]
                    · simp [hq, hq2]
                · have k5' : (a.Kind == 5) = false := by simpa using k5
                  rw [if_neg k5] at hr
                  simp only [k5', cond_false]
                  by_cases k6 : a.Kind = 6
                  · rw [if_pos k6] at hr
                    rw [← hr] at e0
                    obtain ⟨hf, L, hx⟩ := rem_ok e0
                    rw [hr] at hx
                    have hn : lk a.Name F = some (file d a.Name).Data := by rw [f3]; exact con_fnd hf
                    simp only [k6, show ((6 : Int) == 6) = true by rfl, cond_true, hn, Option.isSome_some]
                    refine files_s0 hbx (nodup_del f2) (fun q => ?_) (.inl rfl)
                    rw [hx] at vx ⊢
                    rw [con_rem hD hf vx, lk_del _ _ f2, f3]
                    by_cases hq : q = a.Name <;> simp [hq]
                  · have k6' : (a.Kind == 6) = false := by simpa using k6
                    rw [if_neg k6] at hr
                    simp only [k6', cond_false]
                    rw [← hr] at e0
                    obtain ⟨hf, z1, z2, L, hx⟩ := tru_ok e0
                    rw [hr] at hx
                    have hn : lk a.Name F = some (file d a.Name).Data := by rw [f3]; exact con_fnd hf
                    simp only [hn, Option.getD_some, Option.isSome_some, show ¬ a.Size < 0 by omega, show ¬ a.Size > ((file d a.Name).Data.size : Int) by omega, z1, z2, show (0 : Int) ≤ 0 by omega, decide_true, decide_false, cond_false, cond_true, Bool.and_true]
                    refine files_s0 hbx (nodup_put f2) (fun q => ?_) (.inl rfl)
                    rw [hx] at vx ⊢
                    rw [con_chg hD hf vx, lk_put, f3]
                    by_cases hq : q = a.Name <;> simp [hq]
      · have e : ((doF d a).2 != 0) = true := by simpa [bne] using e0
        simp only [e, cond_true]
end Go.Proofs.Ytkignmhjbjgkoaa
