/- Plain laws of saving, 1: what Save does to a disk. -/
import Derived.Test.YtomalcfghdaghaaGreatDoorMn8
import Derived.Test.YtomalcfghdaghaaGreatDoorWf
set_option linter.unusedVariables false
set_option linter.unusedSimpArgs false
namespace Go.Proofs.YtomalcfghdaghaaGreatDoor
open Go Go.AM Go.Lib
/-! ### Sizes -/
theorem out_crt {c : Nat} {d : GDisk} {name : ByteArray} (h : Bg c d) : Out c d (crtF d name) := by
  have hil := h.il; have hdl := h.dl
  have hb : bE.size = 0 := rfl
  unfold crtF
  split
  · exact out_no (by omega) (by omega)
  · split
    · exact out_no (by omega) (by omega)
    · split
      · exact out_no (by omega) (by omega)
      · split
        · exact out_no (by omega) (by omega)
        · split
          · exact out_no (by omega) (by omega)
          · rename_i hn _ _ _
            have := isNm_size (s := name) (by simpa using hn)
            exact out_prf (bg_pend h (by simp only [hb]; omega) (by simp; omega))
theorem out_sd {c : Nat} {d : GDisk} (h : Bg c d) (hD : c ≤ 1000000) : Out c d (sdF d) := by
  have hil := h.il; have hdl := h.dl
  unfold sdF
  split
  · exact out_no (by omega) (by omega)
  · rename_i hv
    have hv : valid d = true := by simpa using hv
    obtain ⟨f, t, hR⟩ := cur_rd hv (by omega)
    have hl : (cur d).1.length ≤ d.Durable.length + d.Pending.length := aft_len _ _ _
    have hal := acI_len d (cur d).1 d.Inodes.length 0
    have hrk := rnk_le (cur d).1 (0 + d.Inodes.length)
    refine out_prf ⟨fun e he => ?_, fun x hx => by simp at hx, by simp; omega, by simp only; omega⟩
    obtain ⟨e0, he0, rfl⟩ := List.mem_map.1 he
    have := isNm_size (hR.nms e0 he0)
    simp only [rnkE]; omega
theorem out_syn {c : Nat} {d : GDisk} {name : ByteArray} (h : Bg c d) : Out c d (synF d name) := by
  unfold synF
  split
  · rename_i e; exact out_fnd e
  · exact out_prf (bg_chg h)
theorem out_app {c : Nat} {d : GDisk} {name data : ByteArray} (h : Bg c d) : Out c d (appF d name data) := by
  unfold appF
  split
  · rename_i e; exact out_fnd e
  · split
    · exact out_no (by omega) (by omega)
    · exact out_prf (bg_chg h)
theorem out_ren {c : Nat} {d : GDisk} {name to : ByteArray} (h : Bg c d) (hs : name.size + to.size ≤ 200) : Out c d (renF d name to) := by
  have hil := h.il
  unfold renF
  split
  · rename_i e; exact out_fnd e
  · split
    · exact out_no (by omega) (by omega)
    · split
      · exact out_no (by omega) (by omega)
      · split
        · exact out_no (by omega) (by omega)
        · exact out_prf (bg_pend h hs (by omega))
theorem out_rem {c : Nat} {d : GDisk} {name : ByteArray} (h : Bg c d) (hs : name.size ≤ 200) : Out c d (remF d name) := by
  have hil := h.il
  have hb : bE.size = 0 := rfl
  unfold remF
  split
  · rename_i e; exact out_fnd e
  · split
    · exact out_no (by omega) (by omega)
    · exact out_prf (bg_pend h (by simp only [hb]; omega) (by omega))
theorem out_next {c : Nat} {d : GDisk} {r : GDisk × Int} (h : Out c d r) (h0 : r.2 = 0) (hw : Lw d) : Bg (c + 1) r.1 ∧ Lw r.1 := by
  obtain ⟨h1, h2, h3⟩ := h.ok h0
  have w1 := hw.lo; have w2 := hw.hi
  refine ⟨h3, ?_, ?_⟩ <;> rw [h2] <;> split <;> omega
/-! ### Save -/
def thn (r : GDisk × Int) (f : GDisk → GDisk × Int) : GDisk × Int := if r.2 ≠ 0 then r else f r.1
def svT (d : GDisk) (t : ByteArray) : GDisk × Int := thn (crtF d mfnB) fun d2 => thn (appF d2 mfnB t) fun d3 => thn (synF d3 mfnB) fun d4 => thn (renF d4 mfnB mfB) sdF
def svF (d : GDisk) (t : ByteArray) : GDisk × Int := if (rdF d mfnB).2 = 0 then thn (remF d mfnB) (fun d1 => svT d1 t) else svT d t
theorem thn_bind {x : Option (GDisk × Int)} {r : GDisk × Int} (hx : x = some r) {K : GDisk × Int → Option (GDisk × Int)} {f : GDisk → GDisk × Int} (hK : r.2 = 0 → K r = some (f r.1)) : (x.bind fun r => bif (r.2 != 0) then some (r.1, r.2) else K r) = some (thn r f) := by
  rw [hx, Option.bind_some]
  unfold thn
  by_cases h : r.2 = 0
  · rw [bff (by rw [h]; rfl), if_neg (fun e => e h)]; exact hK h
  · rw [btt (by rw [bne_iff_ne]; exact h), if_pos h]
theorem mfn_size : mfnB.size = 12 := rfl
theorem mf_size : mfB.size = 8 := rfl
theorem sv_tail (n : Nat) (d : GDisk) (t : ByteArray) (h : Bg 150 d) (hw : Lw d) (ht : t.size ≤ 1000000000) (hn : 5000 ≤ n) :
    ((manifest_Save_c2 n d).bind fun r10 => (bif (r10.2 != 0) then (some (r10.1, r10.2)) else ((manifest_Save_c3 n r10.1 t).bind fun r11 => (bif (r11.2 != 0) then (some (r11.1, r11.2)) else ((manifest_Save_c4 n r11.1).bind fun r12 => (bif (r12.2 != 0) then (some (r12.1, r12.2)) else ((manifest_Save_c5 n r12.1).bind fun r13 => (bif (r13.2 != 0) then (some (r13.1, r13.2)) else ((disk_SyncDir n r13.1).bind fun r14 => (bif (r14.2 != 0) then (some (r14.1, r14.2)) else (some (r14.1, 0)))))))))))) = some (svT d t) := by
  obtain ⟨m, rfl⟩ : ∃ m, n = m + 1 := ⟨n - 1, by omega⟩
  have e2 : manifest_Save_c2 (m + 1) d = some (crtF d mfnB) := by
    show (disk_Create m d mfnB).bind _ = _
    rw [create_f m 200 d mfnB (h.bd (by omega)) hw (by omega)]; rfl
  refine thn_bind e2 fun z2 => ?_
  obtain ⟨g2, w2⟩ := out_next (out_crt h) z2 hw
  have e3 : manifest_Save_c3 (m + 1) (crtF d mfnB).1 t = some (appF (crtF d mfnB).1 mfnB t) := by
    show (disk_Append m _ mfnB t).bind _ = _
    rw [append_f m 200 _ mfnB t (g2.bd (by omega)) w2 (by omega) ht]; rfl
  refine thn_bind e3 fun z3 => ?_
  obtain ⟨g3, w3⟩ := out_next (out_app g2) z3 w2
  have e4 : manifest_Save_c4 (m + 1) (appF (crtF d mfnB).1 mfnB t).1 = some (synF (appF (crtF d mfnB).1 mfnB t).1 mfnB) := by
    show (disk_Sync m _ mfnB).bind _ = _
    rw [sync_f m 200 _ mfnB (g3.bd (by omega)) w3 (by omega)]; rfl
  refine thn_bind e4 fun z4 => ?_
  obtain ⟨g4, w4⟩ := out_next (out_syn g3) z4 w3
  have e5 : manifest_Save_c5 (m + 1) (synF (appF (crtF d mfnB).1 mfnB t).1 mfnB).1 = some (renF (synF (appF (crtF d mfnB).1 mfnB t).1 mfnB).1 mfnB mfB) := by
    show (disk_Rename m _ mfnB mfB).bind _ = _
    rw [rename_f m 200 _ mfnB mfB (g4.bd (by omega)) w4 (by omega)]; rfl
  refine thn_bind e5 fun z5 => ?_
  obtain ⟨g5, w5⟩ := out_next (out_ren g4 (by rw [mfn_size, mf_size]; omega)) z5 w4
  rw [syncdir_f (m + 1) 200 _ (g5.bd (by omega)) w5 (by omega), Option.bind_some]
  generalize sdF (renF (synF (appF (crtF d mfnB).1 mfnB t).1 mfnB).1 mfnB mfB).1 = r
  by_cases h6 : r.2 = 0
  · rw [bff (by rw [h6]; rfl), ← h6]
  · rw [btt (by rw [bne_iff_ne]; exact h6)]
theorem save_eq (n : Nat) (d : GDisk) (m : GManifest) (h : Bg 120 d) (hw : Lw d) (hn : 40000 ≤ n) : manifest_Save n d m = some (if chk m ≠ 0 then no 1 else if valid d = false then no 1 else svF d (sealed (ofL (txt m)))) := by
  obtain ⟨k, rfl⟩ : ∃ k, n = k + 9 := ⟨n - 9, by omega⟩
  unfold manifest_Save
  simp only
  rw [encode_eq (k + 8) m (by omega), Option.bind_some, encd]
  by_cases hc : chk m = 0
  · have hlen := txt_len (chk_good hc)
    have hsz : (ofL (txt m)).size = (txt m).length := ofL_size _
    have hss := seal_size (ofL (txt m))
    rw [if_neg (show ¬ chk m ≠ 0 from fun e => e hc), if_neg (show ¬ chk m ≠ 0 from fun e => e hc)]
    simp only
    rw [show ((0 : Int) != 0) = false from rfl, cond_false, check_eq (k + 8) 200 d (h.bd (by omega)) (by omega), Option.bind_some]
    generalize sealed (ofL (txt m)) = t at hss
    cases hv : valid d with
    | false => rfl
    | true =>
      rw [cond_true, show ((0 : Int) != 0) = false from rfl, cond_false, if_neg (show ¬ true = false by decide)]
      have er : disk_Read (k + 8) d (⟨#[77, 65, 78, 73, 70, 69, 83, 84, 46, 110, 101, 119]⟩ : ByteArray) = some (rdF d mfnB) := read_d (k + 8) 200 d mfnB (h.bd (by omega)) (by omega)
      rw [er, Option.bind_some]
      unfold svF
      by_cases hr : (rdF d mfnB).2 = 0
      · rw [btt (show ((rdF d mfnB).2 == 0) = true by rw [hr]; rfl), if_pos hr]
        have e1 : manifest_Save_c1 (k + 8) d = some (remF d mfnB) := by
          show (disk_Remove (k + 7) d mfnB).bind _ = _
          rw [remove_f (k + 7) 200 d mfnB (h.bd (by omega)) hw (by omega)]; rfl
        refine thn_bind e1 fun z1 => ?_
        obtain ⟨g1, w1⟩ := out_next (out_rem h (by rw [mfn_size]; omega)) z1 hw
        exact sv_tail (k + 8) _ t (g1.mono (by omega)) w1 (by omega) (by omega)
      · rw [bff (show ((rdF d mfnB).2 == 0) = false by rw [beq_eq_false_iff_ne]; exact hr), if_neg hr]
        exact sv_tail (k + 8) d t (h.mono (by omega)) hw (by omega) (by omega)
  · rw [if_pos (show chk m ≠ 0 from hc), if_pos (show chk m ≠ 0 from hc)]; rfl
end Go.Proofs.YtomalcfghdaghaaGreatDoor

/- Plain laws of saving, 2: without a loss of power Save succeeds, and what was saved outlasts a crash; what Save leaves is valid. -/
set_option linter.unusedVariables false
set_option linter.unusedSimpArgs false
namespace Go.Proofs.YtomalcfghdaghaaGreatDoor
open Go Go.AM Go.Lib
theorem prf_neg {d next : GDisk} (hL : d.Left = -1) : prf d next = (⟨next.Inodes, next.Durable, next.Pending, -1⟩, 0) := by
  unfold prf; rw [if_neg (by omega), hL]; rfl
/-- A disk at hand: valid, never without power, few inodes and operations. -/
structure St (c : Nat) (d : GDisk) : Prop where
  v : valid d = true
  l : d.Left = -1
  b : Bg c d
theorem St.D {c : Nat} {d : GDisk} (h : St c d) (hc : c ≤ 900) : d.Durable.length ≤ 1000000000 := by have := h.b.dl; omega
theorem fnd_con {d : GDisk} {name s : ByteArray} (h : con d name = some s) : (fnd d name).2 = 0 := rdF_fnd (by rw [rdF_some h])
theorem con_nolk {d : GDisk} {name : ByteArray} (hv : valid d = true) (h : con d name = none) : lkE name (cur d).1 = none := by
  rw [con_map hv] at h; exact Option.map_eq_none_iff.1 h
theorem rem_m {c : Nat} {d : GDisk} {name : ByteArray} (h : St c d) (hc : c ≤ 900) (hs : name.size ≤ 200) (hf : (fnd d name).2 = 0) :
    ∃ d', remF d name = (d', 0) ∧ St (c + 1) d' ∧ lkE name (cur d').1 = none := by
  have hdl := h.b.dl; have hil := h.b.il
  have hb : bE.size = 0 := rfl
  obtain ⟨hv, hl⟩ := fnd_lk hf
  have hx : valid ⟨d.Inodes, d.Durable, d.Pending ++ [⟨3, name, bE, 0⟩], -1⟩ = true := valid_pend hv (by omega) (by
    simp only [ap, hl, show ((3 : Int) == 1) = false by rfl, show ((3 : Int) == 2) = false by rfl, show ((3 : Int) == 3) = true by rfl, show ((0 : Int) != 0) = false by rfl, cond_false, decide_true, Bool.and_true]) (-1) (by omega)
  refine ⟨⟨d.Inodes, d.Durable, d.Pending ++ [⟨3, name, bE, 0⟩], -1⟩, ?_, ⟨hx, rfl, ?_⟩, ?_⟩
  · unfold remF; rw [if_neg (fun e => e hf), if_neg (by omega), prf_neg h.l]
  · have := bg_pend (x := ⟨3, name, bE, 0⟩) (I := d.Inodes) h.b (by simp only [hb]; omega) (by omega)
    exact ⟨this.dn, this.pn, this.dl, this.il⟩
  · refine con_nolk hx ?_
    rw [con_rem (h.D hc) hf hx, if_pos rfl]
theorem crt_m {c : Nat} {d : GDisk} {name : ByteArray} (h : St c d) (hc : c ≤ 900) (hnm : isNm name = true) (hn : lkE name (cur d).1 = none) :
    ∃ d', crtF d name = (d', 0) ∧ St (c + 1) d' ∧ con d' name = some bE := by
  have hdl := h.b.dl; have hil := h.b.il
  have hb : bE.size = 0 := rfl
  have hsz := isNm_size hnm
  have hx : valid ⟨d.Inodes ++ [⟨bE, 0⟩], d.Durable, d.Pending ++ [⟨1, name, bE, (d.Inodes.length : Int)⟩], -1⟩ = true := valid_new h.v (by omega) (by omega) (by
    obtain ⟨f, t, hR⟩ := cur_rd h.v (h.D hc)
    have hu : usedE (cur d).1 (d.Inodes.length : Int) = false := by
      cases hu : usedE (cur d).1 (d.Inodes.length : Int) with
      | false => rfl
      | true => obtain ⟨e, he, hh⟩ := usedE_iff.1 hu; have := (hR.rng e he).2; omega
    simp only [ap, show ((1 : Int) == 1) = true by rfl, cond_true, hnm, hn, Option.isNone_none, hu, show ((d.Inodes.length : Int) ≥ 0) by omega, show ((d.Inodes.length : Int) < (d.Inodes.length : Int) + 1) by omega, decide_true, Bool.not_false, Bool.and_true]) (-1) (by omega)
  refine ⟨⟨d.Inodes ++ [⟨bE, 0⟩], d.Durable, d.Pending ++ [⟨1, name, bE, (d.Inodes.length : Int)⟩], -1⟩, ?_, ⟨hx, rfl, ?_⟩, ?_⟩
  · unfold crtF
    rw [if_neg (by rw [h.v]; decide), if_neg (by rw [hnm]; decide), if_neg (by rw [hn]; decide), if_neg (by omega), if_neg (by omega), prf_neg h.l]
  · have := bg_pend (x := ⟨1, name, bE, (d.Inodes.length : Int)⟩) (I := d.Inodes ++ [⟨bE, 0⟩]) h.b (by simp only [hb]; omega) (by simp; omega)
    exact ⟨this.dn, this.pn, this.dl, this.il⟩
  · rw [con_crt h.v (h.D hc) hn hx, if_pos rfl]
theorem app_m {c : Nat} {d : GDisk} {name t : ByteArray} (h : St c d) (hc : c ≤ 900) (ht : t.size ≤ 1000000) (hcon : con d name = some bE) :
    ∃ d', appF d name t = (d', 0) ∧ St (c + 1) d' ∧ con d' name = some t := by
  have hf := fnd_con hcon
  have hfile := con_fnd hf
  rw [hcon] at hfile
  have hdat : (file d name).Data = bE := (Option.some.inj hfile).symm
  obtain ⟨o1, o2, o3, o4, o5, o6⟩ := file_ok (h.D hc) hf
  obtain ⟨p1, p2, p3⟩ := okI_spec o1
  have hbe : bE ++ t = t := ky_inj (by rw [ky_app]; exact List.nil_append _)
  have hb : bE.size = 0 := rfl
  have hx : valid ⟨d.Inodes.set (ino d name) ⟨(file d name).Data ++ t, (file d name).Synced⟩, d.Durable, d.Pending, -1⟩ = true := valid_chg h.v (by
    rw [hdat] at p3 ⊢
    rw [hbe]
    simp only [okI, show t.size ≤ 1048576 by omega, p2, show (file d name).Synced ≤ (t.size : Int) by omega, decide_true, Bool.and_true]) (-1) (by omega)
  refine ⟨_, ?_, ⟨hx, rfl, ?_⟩, ?_⟩
  · unfold appF; rw [if_neg (fun e => e hf), if_neg (by rw [hdat, hb]; omega), prf_neg h.l]; rfl
  · have := bg_chg (i := ino d name) (x := ⟨(file d name).Data ++ t, (file d name).Synced⟩) h.b
    exact ⟨this.dn, this.pn, this.dl, this.il⟩
  · rw [con_chg (h.D hc) hf hx, if_pos rfl, hdat, hbe]
theorem lk_fnd {d : GDisk} {name : ByteArray} {i : Int} (hv : valid d = true) (hl : lkE name (cur d).1 = some i) : fnd d name = (i, 0) := by
  unfold fnd; rw [hv, cond_true, hl]
theorem syn_m {c : Nat} {d : GDisk} {name t : ByteArray} (h : St c d) (hc : c ≤ 900) (hcon : con d name = some t) :
    ∃ d' i, synF d name = (d', 0) ∧ St (c + 1) d' ∧ lkE name (cur d').1 = some i ∧ d'.Inodes.getD i.toNat dGInode = ⟨t, (t.size : Int)⟩ := by
  have hf := fnd_con hcon
  have hfile := con_fnd hf
  rw [hcon] at hfile
  have hdat : (file d name).Data = t := (Option.some.inj hfile).symm
  obtain ⟨o1, o2, o3, o4, o5, o6⟩ := file_ok (h.D hc) hf
  obtain ⟨p1, p2, p3⟩ := okI_spec o1
  obtain ⟨hv, hl⟩ := fnd_lk hf
  rw [hdat] at p1
  have hx : valid ⟨d.Inodes.set (ino d name) ⟨t, (t.size : Int)⟩, d.Durable, d.Pending, -1⟩ = true := valid_chg h.v (by
    simp only [okI, p1, show (0 : Int) ≤ (t.size : Int) by omega, show (t.size : Int) ≤ (t.size : Int) by omega, decide_true, Bool.and_true]) (-1) (by omega)
  refine ⟨⟨d.Inodes.set (ino d name) ⟨t, (t.size : Int)⟩, d.Durable, d.Pending, -1⟩, (fnd d name).1, ?_, ⟨hx, rfl, ?_⟩, ?_, ?_⟩
  · unfold synF; rw [if_neg (fun e => e hf), hdat, prf_neg h.l]; rfl
  · have := bg_chg (i := ino d name) (x := ⟨t, (t.size : Int)⟩) h.b
    exact ⟨this.dn, this.pn, this.dl, this.il⟩
  · unfold cur; simp only [List.length_set]; exact hl
  · exact getD_set_eq o2
theorem ren_m {c : Nat} {d : GDisk} {name to : ByteArray} {i : Int} (h : St c d) (hc : c ≤ 900) (hnm : isNm to = true) (hne : to ≠ name) (hs : name.size + to.size ≤ 200) (hl : lkE name (cur d).1 = some i) :
    ∃ d', renF d name to = (d', 0) ∧ St (c + 1) d' ∧ lkE to (cur d').1 = some i ∧ d'.Inodes = d.Inodes ∧ lkE name (cur d').1 = none := by
  have hdl := h.b.dl; have hil := h.b.il
  have hf : (fnd d name).2 = 0 := by rw [lk_fnd h.v hl]
  have hx : valid ⟨d.Inodes, d.Durable, d.Pending ++ [⟨2, name, to, 0⟩], -1⟩ = true := valid_pend h.v (by omega) (by
    simp only [ap, hl, hnm, hne, show ((2 : Int) == 1) = false by rfl, show ((2 : Int) == 2) = true by rfl, show ((0 : Int) != 0) = false by rfl, cond_true, cond_false, decide_false, Bool.not_false, Bool.and_true]) (-1) (by omega)
  refine ⟨⟨d.Inodes, d.Durable, d.Pending ++ [⟨2, name, to, 0⟩], -1⟩, ?_, ⟨hx, rfl, ?_⟩, ?_, rfl, con_nolk hx (by rw [con_ren (h.D hc) hf hne hnm hx, if_neg (Ne.symm hne), if_pos rfl])⟩
  · unfold renF; rw [if_neg (fun e => e hf), if_neg (by rw [hnm]; decide), if_neg hne, if_neg (by omega), prf_neg h.l]
  · have := bg_pend (x := ⟨2, name, to, 0⟩) (I := d.Inodes) h.b hs (by omega)
    exact ⟨this.dn, this.pn, this.dl, this.il⟩
  · obtain ⟨f, t, hR⟩ := cur_rd h.v (h.D hc)
    have i6 := (valid_il h.v).2.2.2.2.2
    have hcur : cur ⟨d.Inodes, d.Durable, d.Pending ++ [⟨2, name, to, 0⟩], -1⟩ = ap (d.Inodes.length : Int) (cur d).1 ⟨2, name, to, 0⟩ := aft_app i6
    have hap : (ap (d.Inodes.length : Int) (cur d).1 ⟨2, name, to, 0⟩).1 = wi ⟨to, i⟩ (wo (wo (cur d).1 name) to) := by
      simp only [ap, hl, show ((2 : Int) == 1) = false by rfl, show ((2 : Int) == 2) = true by rfl, show ((0 : Int) != 0) = false by rfl, cond_false, cond_true]
    have s1 := srt_wo (name := name) hR.srt
    have s2 := srt_wo (name := to) s1
    have hno : lkE to (wo (wo (cur d).1 name) to) = none := by rw [lkE_wo s1]; simp
    rw [hcur, hap, lkE_wi s2 hno]
    simp
theorem sd_m {c : Nat} {d : GDisk} {name : ByteArray} {i : Int} {x : GInode} (h : St c d) (hc : c ≤ 900) (hl : lkE name (cur d).1 = some i) (hi : d.Inodes.getD i.toNat dGInode = x) :
    ∃ d' j, sdF d = (d', 0) ∧ St (c + 1) d' ∧ d'.Pending = [] ∧ lkE name d'.Durable = some j ∧ d'.Inodes.getD j.toNat dGInode = x ∧ ∀ q, lkE q (cur d).1 = none → lkE q d'.Durable = none := by
  have hx := valid_sync h.v (h.D hc) (-1) (by omega)
  have hsd : sdF d = (⟨acI d (cur d).1 0 d.Inodes.length, (cur d).1.map (rnkE (cur d).1), [], -1⟩, 0) := by
    unfold sdF; rw [if_neg (by rw [h.v]; decide), prf_neg h.l]
  have ho := (out_sd h.b (by omega)).ok (by rw [hsd])
  refine ⟨_, (rnk (cur d).1 i.toNat : Int), hsd, ⟨hx, rfl, ?_⟩, rfl, ?_, ?_, fun q hq => by simp only [lkE_rnk, hq, Option.map_none]⟩
  · have := ho.2.2
    rw [hsd] at this; exact this
  · simp only [lkE_rnk, hl, Option.map_some]
  · have := sd_at h.v (h.D hc) hl
    simp only [toNat_c]
    rw [this, hi]
/-- What is durable of a file: its entry, its bytes all synchronized, nothing pending. -/
structure Kp (d : GDisk) (name t : ByteArray) : Prop where
  v : valid d = true
  p : d.Pending = []
  e : ∃ j, lkE name d.Durable = some j ∧ d.Inodes.getD j.toNat dGInode = ⟨t, (t.size : Int)⟩
theorem mfn_nm : isNm mfnB = true := by decide
theorem mf_nm : isNm mfB = true := by decide
theorem mf_ne : mfB ≠ mfnB := by decide
theorem svT_m {c : Nat} {d : GDisk} {t : ByteArray} (h : St c d) (hc : c ≤ 800) (ht : t.size ≤ 1000000) (hn : lkE mfnB (cur d).1 = none) : ∃ y, svT d t = (y, 0) ∧ St (c + 5) y ∧ Kp y mfB t ∧ lkE mfnB y.Durable = none := by
  obtain ⟨d2, e2, s2, c2⟩ := crt_m h (by omega) mfn_nm hn
  obtain ⟨d3, e3, s3, c3⟩ := app_m s2 (by omega) ht c2
  obtain ⟨d4, i, e4, s4, l4, x4⟩ := syn_m s3 (by omega) c3
  obtain ⟨d5, e5, s5, l5, x5, n5⟩ := ren_m s4 (by omega) mf_nm mf_ne (by rw [mfn_size, mf_size]; omega) l4
  obtain ⟨d6, j, e6, s6, p6, l6, x6, n6⟩ := sd_m (x := ⟨t, (t.size : Int)⟩) s5 (by omega) l5 (by rw [x5]; exact x4)
  refine ⟨d6, ?_, s6, ⟨s6.v, p6, j, l6, x6⟩, n6 _ n5⟩
  unfold svT thn
  simp only [e2, e3, e4, e5, e6, ne_eq, not_true_eq_false, if_false]
theorem svF_m {c : Nat} {d : GDisk} {t : ByteArray} (h : St c d) (hc : c ≤ 700) (ht : t.size ≤ 1000000) : ∃ y, svF d t = (y, 0) ∧ St (c + 6) y ∧ Kp y mfB t ∧ lkE mfnB y.Durable = none := by
  unfold svF
  by_cases hr : (rdF d mfnB).2 = 0
  · rw [if_pos hr]
    obtain ⟨d1, e1, s1, l1⟩ := rem_m h (by omega) (by rw [mfn_size]; omega) (rdF_fnd hr)
    obtain ⟨y, ey, sy, ky⟩ := svT_m s1 (by omega) ht l1
    refine ⟨y, ?_, sy, ky⟩
    unfold thn
    simp only [e1, ne_eq, not_true_eq_false, if_false]; exact ey
  · rw [if_neg hr]
    have hn : lkE mfnB (cur d).1 = none := by
      cases hl : lkE mfnB (cur d).1 with
      | none => rfl
      | some i => exact absurd (by rw [rd_some h.v hl]) hr
    obtain ⟨y, ey, sy, ky⟩ := svT_m h (by omega) ht hn
    exact ⟨y, ey, ⟨sy.v, sy.l, sy.b.mono (by omega)⟩, ky⟩
theorem kp_crash {y : GDisk} {name t : ByteArray} (h : Kp y name t) (hD : y.Durable.length ≤ 1000000000) (picks : List Int) : rdF (crF y picks) name = (t, 0) := by
  obtain ⟨j, hl, hx⟩ := h.e
  have hcd : crDir y picks = y.Durable := crDir_nil picks h.p
  obtain ⟨k, k1, k2, k3, _, _, k4⟩ := (con_crF picks h.v hD name).2 j (by rw [hcd]; exact hl)
  rw [hx] at k1 k2 k4
  have hk : k.toNat = t.size := by simp only at k1 k2; omega
  rw [hk] at k4
  simp only at k4
  rw [extract_all t t.size (Nat.le_refl _)] at k4
  exact rdF_some k4
/-! ### What Save leaves is valid -/
def Vd (r : GDisk × Int) : Prop := r.2 = 0 ∨ r.2 = 19 → valid r.1 = true
theorem vd_no {e : Int} (h0 : e ≠ 0) (h1 : e ≠ 19) : Vd (no e) := fun h => h.elim (fun h => absurd h h0) (fun h => absurd h h1)
theorem vd_prf {d next : GDisk} (hv : valid d = true) (hn : ∀ L, -1 ≤ L → valid ⟨next.Inodes, next.Durable, next.Pending, L⟩ = true) : Vd (prf d next) := fun _ => valid_prf hv hn
theorem vd_fnd {d : GDisk} {name : ByteArray} (h : (fnd d name).2 ≠ 0) : Vd (no (fnd d name).2) := by
  rcases fnd_e d name with e | e | e
  · exact absurd e h
  · rw [e]; exact vd_no (by omega) (by omega)
  · rw [e]; exact vd_no (by omega) (by omega)
theorem vd_crt {d : GDisk} {name : ByteArray} (hD : d.Durable.length ≤ 1000000000) : Vd (crtF d name) := by
  unfold crtF
  split
  · exact vd_no (by omega) (by omega)
  · rename_i hv
    have hv : valid d = true := by simpa using hv
    split
    · exact vd_no (by omega) (by omega)
    · rename_i hnm
      split
      · exact vd_no (by omega) (by omega)
      · rename_i hnn
        split
        · exact vd_no (by omega) (by omega)
        · split
          · exact vd_no (by omega) (by omega)
          · rename_i c1 c2
            refine vd_prf hv (fun L hL => valid_new hv (by omega) (by omega) ?_ L hL)
            obtain ⟨f, t, hR⟩ := cur_rd hv hD
            have hu : usedE (cur d).1 (d.Inodes.length : Int) = false := by
              cases hu : usedE (cur d).1 (d.Inodes.length : Int) with
              | false => rfl
              | true => obtain ⟨e, he, hh⟩ := usedE_iff.1 hu; have := (hR.rng e he).2; omega
            have e1 : isNm name = true := by simpa using hnm
            have e2 : (lkE name (cur d).1).isNone = true := by simpa using hnn
            simp only [ap, show ((1 : Int) == 1) = true by rfl, cond_true, e1, e2, hu, show ((d.Inodes.length : Int) ≥ 0) by omega, show ((d.Inodes.length : Int) < (d.Inodes.length : Int) + 1) by omega, decide_true, Bool.not_false, Bool.and_true]
theorem vd_app {d : GDisk} {name data : ByteArray} (hD : d.Durable.length ≤ 1000000000) : Vd (appF d name data) := by
  unfold appF
  split
  · rename_i he; exact vd_fnd he
  · rename_i he
    have he : (fnd d name).2 = 0 := by simpa using he
    obtain ⟨o1, o2, o3, o4, o5, o6⟩ := file_ok hD he
    obtain ⟨p1, p2, p3⟩ := okI_spec o1
    split
    · exact vd_no (by omega) (by omega)
    · rename_i c
      refine vd_prf (fnd_lk he).1 (fun L hL => valid_chg (fnd_lk he).1 ?_ L hL)
      simp only [okI, ByteArray.size_append, show (file d name).Data.size + data.size ≤ 1048576 by omega, p2, show (file d name).Synced ≤ (((file d name).Data.size + data.size : Nat) : Int) by omega, decide_true, Bool.and_true]
theorem vd_syn {d : GDisk} {name : ByteArray} (hD : d.Durable.length ≤ 1000000000) : Vd (synF d name) := by
  unfold synF
  split
  · rename_i he; exact vd_fnd he
  · rename_i he
    have he : (fnd d name).2 = 0 := by simpa using he
    obtain ⟨o1, o2, o3, o4, o5, o6⟩ := file_ok hD he
    obtain ⟨p1, p2, p3⟩ := okI_spec o1
    refine vd_prf (fnd_lk he).1 (fun L hL => valid_chg (fnd_lk he).1 ?_ L hL)
    simp only [okI, p1, show (0 : Int) ≤ ((file d name).Data.size : Int) by omega, show ((file d name).Data.size : Int) ≤ ((file d name).Data.size : Int) by omega, decide_true, Bool.and_true]
theorem vd_sd {d : GDisk} (hD : d.Durable.length ≤ 1000000000) : Vd (sdF d) := by
  unfold sdF
  split
  · exact vd_no (by omega) (by omega)
  · rename_i hv
    have hv : valid d = true := by simpa using hv
    exact vd_prf hv (fun L hL => valid_sync hv hD L hL)
theorem vd_ren {d : GDisk} {name to : ByteArray} : Vd (renF d name to) := by
  unfold renF
  split
  · rename_i he; exact vd_fnd he
  · rename_i he
    have he : (fnd d name).2 = 0 := by simpa using he
    obtain ⟨hv, hl⟩ := fnd_lk he
    split
    · exact vd_no (by omega) (by omega)
    · rename_i hnm
      split
      · exact vd_no (by omega) (by omega)
      · rename_i hne
        split
        · exact vd_no (by omega) (by omega)
        · rename_i c
          refine vd_prf hv (fun L hL => valid_pend hv (by omega) ?_ L hL)
          have e1 : isNm to = true := by simpa using hnm
          simp only [ap, hl, e1, hne, show ((2 : Int) == 1) = false by rfl, show ((2 : Int) == 2) = true by rfl, show ((0 : Int) != 0) = false by rfl, cond_true, cond_false, decide_false, Bool.not_false, Bool.and_true]
theorem vd_rem {d : GDisk} {name : ByteArray} : Vd (remF d name) := by
  unfold remF
  split
  · rename_i he; exact vd_fnd he
  · rename_i he
    have he : (fnd d name).2 = 0 := by simpa using he
    obtain ⟨hv, hl⟩ := fnd_lk he
    split
    · exact vd_no (by omega) (by omega)
    · rename_i c
      refine vd_prf hv (fun L hL => valid_pend hv (by omega) ?_ L hL)
      simp only [ap, hl, show ((3 : Int) == 1) = false by rfl, show ((3 : Int) == 2) = false by rfl, show ((3 : Int) == 3) = true by rfl, show ((0 : Int) != 0) = false by rfl, cond_false, decide_true, Bool.and_true]
/-- Valid where it succeeded or lost power, and not much greater. -/
def Gd (c : Nat) (r : GDisk × Int) : Prop := (r.2 = 0 ∨ r.2 = 19) → valid r.1 = true ∧ Bg c r.1
theorem gd_op {c : Nat} {d : GDisk} {r : GDisk × Int} (hb : Bg c d) (ho : Out c d r) (hv : Vd r) : Gd (c + 1) r := fun h => by
  refine ⟨hv h, ?_⟩
  rcases h with h | h
  · exact (ho.ok h).2.2
  · rw [(ho.lost h).2]; exact hb.mono (by omega)
theorem gd_thn {c c' : Nat} {r : GDisk × Int} {f : GDisk → GDisk × Int} (hc : c ≤ c') (h : Gd c r) (hf : r.2 = 0 → Bg c r.1 → Gd c' (f r.1)) : Gd c' (thn r f) := by
  unfold thn
  by_cases h0 : r.2 = 0
  · rw [if_neg (fun e => e h0)]; exact hf h0 (h (.inl h0)).2
  · rw [if_pos h0]; exact fun e => ⟨(h e).1, (h e).2.mono hc⟩
theorem gd_svT {c : Nat} {d : GDisk} {t : ByteArray} (h : Bg c d) (hc : c ≤ 500) : Gd (c + 5) (svT d t) := by
  unfold svT
  have D : ∀ {k : Nat} {x : GDisk}, Bg k x → k ≤ 600 → x.Durable.length ≤ 1000000000 := fun hb hk => by have := hb.dl; omega
  refine gd_thn (c := c + 1) (by omega) (gd_op h (out_crt h) (vd_crt (D h (by omega)))) fun _ h2 => ?_
  refine gd_thn (c := c + 2) (by omega) (gd_op h2 (out_app h2) (vd_app (D h2 (by omega)))) fun _ h3 => ?_
  refine gd_thn (c := c + 3) (by omega) (gd_op h3 (out_syn h3) (vd_syn (D h3 (by omega)))) fun _ h4 => ?_
  refine gd_thn (c := c + 4) (by omega) (gd_op h4 (out_ren h4 (by rw [mfn_size, mf_size]; omega)) vd_ren) fun _ h5 => ?_
  exact gd_op h5 (out_sd h5 (by omega)) (vd_sd (D h5 (by omega)))
theorem gd_svF {c : Nat} {d : GDisk} {t : ByteArray} (h : Bg c d) (hc : c ≤ 490) : Gd (c + 6) (svF d t) := by
  unfold svF
  split
  · refine gd_thn (c := c + 1) (by omega) (gd_op h (out_rem h (by rw [mfn_size]; omega)) vd_rem) fun _ h2 => ?_
    exact gd_svT h2 (by omega)
  · have := gd_svT (t := t) h (by omega)
    exact fun e => ⟨(this e).1, (this e).2.mono (by omega)⟩
end Go.Proofs.YtomalcfghdaghaaGreatDoor

/- Plain laws of saving, 3: the law ManifestAgain. -/
set_option linter.unusedVariables false
set_option linter.unusedSimpArgs false
namespace Go.Proofs.YtomalcfghdaghaaGreatDoor
open Go Go.AM Go.Lib
theorem valid_left {d : GDisk} {L : Int} (h : valid d = true) (hL : -1 ≤ L) : valid ⟨d.Inodes, d.Durable, d.Pending, L⟩ = true := by
  obtain ⟨h1, h2, h3, h4, h5, h6⟩ := valid_il h
  exact valid_of h1 h2 hL h4 h5 h6
theorem great24 (n : Nat) (m : GManifest) (hn : 1 ≤ n) : ∃ b, lookoutref24_Great n m = some b := by
  obtain ⟨k, rfl⟩ : ∃ k, n = k + 1 := ⟨n - 1, by omega⟩
  unfold lookoutref24_Great
  simp only
  cases decide ((m.Blocks.length : Int) > 12) <;> exact ⟨_, rfl⟩
theorem txt_seal {m : GManifest} (hc : chk m = 0) : (sealed (ofL (txt m))).size ≤ 1000000 := by
  have hlen := txt_len (chk_good hc)
  have hsz : (ofL (txt m)).size = (txt m).length := ofL_size _
  have hss := seal_size (ofL (txt m))
  omega
end Go.Proofs.YtomalcfghdaghaaGreatDoor

/- Plain laws of saving, 4: the law ManifestAtomic. -/
set_option linter.unusedVariables false
set_option linter.unusedSimpArgs false
namespace Go.Proofs.YtomalcfghdaghaaGreatDoor
open Go Go.AM Go.Lib
theorem prf_g {d next : GDisk} (hL : -1 ≤ d.Left) : prf d next = (d, 19) ∨ ∃ L, -1 ≤ L ∧ prf d next = (⟨next.Inodes, next.Durable, next.Pending, L⟩, 0) := by
  unfold prf
  by_cases h : d.Left = 0
  · rw [if_pos h]; exact .inl rfl
  · rw [if_neg h]; exact .inr ⟨_, left_ok h hL, rfl⟩
/-- A disk on which MANIFEST says a, in an entry that is durable; inode N and beyond are not its. -/
structure At (D : Dir) (N j : Nat) (ta : ByteArray) (d : GDisk) : Prop where
  v : valid d = true
  dn : ∀ e ∈ D, e.Name.size ≤ 200
  dl : D.length ≤ 100
  nl : N ≤ 100
  du : d.Durable = D
  lk : lkE mfB D = some (j : Int)
  nn : lkE mfnB D = none
  jn : j < N
  x : d.Inodes.getD j dGInode = ⟨ta, (ta.size : Int)⟩
theorem At.D {D : Dir} {N j : Nat} {ta : ByteArray} {d : GDisk} (h : At D N j ta d) : d.Durable.length ≤ 1000000000 := by have := h.dl; rw [h.du]; omega
theorem At.left {D : Dir} {N j : Nat} {ta : ByteArray} {d : GDisk} (h : At D N j ta d) : -1 ≤ d.Left := (valid_il h.v).2.2.1
/-- A crash that finds MANIFEST's old entry. -/
theorem crash_at {d : GDisk} {i : Int} {t : ByteArray} (picks : List Int) (hv : valid d = true) (hD : d.Durable.length ≤ 1000000000) (hl : lkE mfB (crDir d picks) = some i) (hx : d.Inodes.getD i.toNat dGInode = ⟨t, (t.size : Int)⟩) : rdF (crF d picks) mfB = (t, 0) := by
  obtain ⟨k, k1, k2, k3, _, _, k4⟩ := (con_crF picks hv hD mfB).2 i hl
  rw [hx] at k1 k2 k4
  have hk : k.toNat = t.size := by simp only at k1 k2; omega
  rw [hk] at k4
  simp only at k4
  rw [extract_all t t.size (Nat.le_refl _)] at k4
  exact rdF_some k4
def crOp (N : Nat) : GDirOp := ⟨1, mfnB, bE, (N : Int)⟩
def rnOp : GDirOp := ⟨2, mfnB, mfB, 0⟩
theorem ap_cr {D : Dir} (n : Int) (N : Nat) : (ap n D (crOp N)).1 = wi ⟨mfnB, (N : Int)⟩ D := by
  simp only [ap, crOp, show ((1 : Int) == 1) = true by rfl, cond_true]
/-- What the directory may be after a crash with these pending. -/
theorem crDir_take {d : GDisk} (picks : List Int) : ∃ c, crDir d picks = (aft (d.Inodes.length : Int) (d.Pending.take c) d.Durable).1 := ⟨_, rfl⟩
theorem At.crash0 {D : Dir} {N j : Nat} {ta : ByteArray} {d : GDisk} (h : At D N j ta d) (hp : d.Pending = [] ∨ d.Pending = [crOp N]) (picks : List Int) : rdF (crF d picks) mfB = (ta, 0) := by
  refine crash_at (i := (j : Int)) picks h.v h.D ?_ (by rw [toNat_c]; exact h.x)
  obtain ⟨c, hc⟩ := crDir_take (d := d) picks
  obtain ⟨f, t, hR⟩ := cur_rd (d := ⟨d.Inodes, D, [], -1⟩) (valid_of (valid_il h.v).1 (by simp) (by simp) (valid_il h.v).2.2.2.1 (by have := (valid_il h.v).2.2.2.2.1; unfold durA at this ⊢; rw [h.du] at this; exact this) (by rfl)) (by have := h.D; rw [h.du] at this; exact this)
  rw [cur_nil rfl] at hR
  simp only at hR
  rw [hc, h.du]
  rcases hp with hp | hp
  · rw [hp, List.take_nil]; exact h.lk
  · rw [hp]
    cases c with
    | zero => exact h.lk
    | succ c =>
      rw [List.take_succ_cons, List.take_nil, aft]
      have hlk : lkE mfB (wi ⟨mfnB, (N : Int)⟩ D) = some (j : Int) := by
        rw [lkE_wi hR.srt h.nn]
        simp only [show decide (mfB = mfnB) = false from decide_eq_false mf_ne, cond_false]; exact h.lk
      cases hap : (ap (d.Inodes.length : Int) D (crOp N)).2 with
      | false => simp only [cond_false]; rw [ap_cr]; exact hlk
      | true => simp only [cond_true, aft]; rw [ap_cr]; exact hlk
theorem srtD {D : Dir} {N j : Nat} {ta : ByteArray} {d : GDisk} (h : At D N j ta d) : Srt D := by
  obtain ⟨f, t, hR⟩ := cur_rd (d := ⟨d.Inodes, D, [], -1⟩) (valid_of (valid_il h.v).1 (by simp) (by simp) (valid_il h.v).2.2.2.1 (by have := (valid_il h.v).2.2.2.2.1; unfold durA at this ⊢; rw [h.du] at this; exact this) (by rfl)) (by have := h.dl; simp only; omega)
  rw [cur_nil rfl] at hR
  exact hR.srt
structure A1 (D : Dir) (N j : Nat) (ta : ByteArray) (x : GInode) (d : GDisk) : Prop where
  a : At D N j ta d
  p : d.Pending = [crOp N]
  l : d.Inodes.length = N + 1
  g : d.Inodes.getD N dGInode = x
theorem A1.lk1 {D : Dir} {N j : Nat} {ta : ByteArray} {x : GInode} {d : GDisk} (h : A1 D N j ta x d) : (cur d).1 = wi ⟨mfnB, (N : Int)⟩ D := by
  unfold cur
  rw [h.p, h.a.du, aft]
  cases hap : (ap (d.Inodes.length : Int) D (crOp N)).2 with
  | false => simp only [cond_false]; rw [ap_cr]
  | true => simp only [cond_true, aft]; rw [ap_cr]
theorem A1.lk {D : Dir} {N j : Nat} {ta : ByteArray} {x : GInode} {d : GDisk} (h : A1 D N j ta x d) : lkE mfnB (cur d).1 = some (N : Int) := by
  rw [h.lk1, lkE_wi (srtD h.a) h.a.nn]; simp
theorem A1.fnd {D : Dir} {N j : Nat} {ta : ByteArray} {x : GInode} {d : GDisk} (h : A1 D N j ta x d) : Go.Proofs.YtomalcfghdaghaaGreatDoor.fnd d mfnB = ((N : Int), 0) := lk_fnd h.a.v h.lk
theorem A1.file {D : Dir} {N j : Nat} {ta : ByteArray} {x : GInode} {d : GDisk} (h : A1 D N j ta x d) : ino d mfnB = N ∧ Go.Proofs.YtomalcfghdaghaaGreatDoor.file d mfnB = x := by
  have e : ino d mfnB = N := by unfold ino; rw [h.fnd]; rfl
  exact ⟨e, by unfold Go.Proofs.YtomalcfghdaghaaGreatDoor.file; rw [e]; exact h.g⟩
theorem getD_app {l : List GInode} {x : GInode} {i : Nat} (h : i < l.length) : (l ++ [x]).getD i dGInode = l.getD i dGInode := by
  rw [List.getD_eq_getElem?_getD, List.getD_eq_getElem?_getD, List.getElem?_append_left h]
theorem st1 {D : Dir} {N j : Nat} {ta : ByteArray} {d : GDisk} (h : At D N j ta d) (hp : d.Pending = []) (hN : d.Inodes.length = N) : crtF d mfnB = (d, 19) ∨ ∃ d', crtF d mfnB = (d', 0) ∧ A1 D N j ta ⟨bE, 0⟩ d' := by
  have hnl := h.nl
  have hcur : (cur d).1 = D := by rw [cur_nil hp]; exact h.du
  have hnn : lkE mfnB (cur d).1 = none := by rw [hcur]; exact h.nn
  have hvL : ∀ L, -1 ≤ L → valid ⟨d.Inodes ++ [⟨bE, 0⟩], d.Durable, d.Pending ++ [⟨1, mfnB, bE, (d.Inodes.length : Int)⟩], L⟩ = true := fun L hL => valid_new h.v (by omega) (by rw [hp]; simp) (by
    obtain ⟨f, t, hR⟩ := cur_rd h.v h.D
    have hu : usedE (cur d).1 (d.Inodes.length : Int) = false := by
      cases hu : usedE (cur d).1 (d.Inodes.length : Int) with
      | false => rfl
      | true => obtain ⟨e, he, hh⟩ := usedE_iff.1 hu; have := (hR.rng e he).2; omega
    simp only [ap, show ((1 : Int) == 1) = true by rfl, cond_true, mfn_nm, hnn, Option.isNone_none, hu, show ((d.Inodes.length : Int) ≥ 0) by omega, show ((d.Inodes.length : Int) < (d.Inodes.length : Int) + 1) by omega, decide_true, Bool.not_false, Bool.and_true]) L hL
  have hc : crtF d mfnB = prf d ⟨d.Inodes ++ [⟨bE, 0⟩], d.Durable, d.Pending ++ [⟨1, mfnB, bE, (d.Inodes.length : Int)⟩], d.Left⟩ := by
    unfold crtF
    rw [if_neg (by rw [h.v]; decide), if_neg (by rw [mfn_nm]; decide), if_neg (by rw [hnn]; decide), if_neg (by omega), if_neg (by rw [hp]; simp)]
  rw [hc]
  rcases prf_g (next := ⟨d.Inodes ++ [⟨bE, 0⟩], d.Durable, d.Pending ++ [⟨1, mfnB, bE, (d.Inodes.length : Int)⟩], d.Left⟩) h.left with e | ⟨L, hL, e⟩
  · exact .inl e
  · refine .inr ⟨_, e, ⟨hvL L hL, h.dn, h.dl, h.nl, h.du, h.lk, h.nn, h.jn, ?_⟩, ?_, ?_, ?_⟩
    · simp only; rw [getD_app (by rw [hN]; exact h.jn)]; exact h.x
    · simp only; rw [hp, hN]; rfl
    · simp [hN]
    · simp only
      rw [List.getD_eq_getElem?_getD, List.getElem?_append_right (by omega), hN, Nat.sub_self]; rfl
theorem stchg {D : Dir} {N j : Nat} {ta : ByteArray} {x y : GInode} {d : GDisk} (h : A1 D N j ta x d) (hy : okI y = true) : prf d (chg d (ino d mfnB) y) = (d, 19) ∨ ∃ d', prf d (chg d (ino d mfnB) y) = (d', 0) ∧ A1 D N j ta y d' := by
  have hjn := h.a.jn
  rw [h.file.1]
  rcases prf_g (next := chg d N y) h.a.left with e | ⟨L, hL, e⟩
  · exact .inl e
  · refine .inr ⟨_, e, ⟨valid_chg h.a.v hy L hL, h.a.dn, h.a.dl, h.a.nl, h.a.du, h.a.lk, h.a.nn, h.a.jn, ?_⟩, h.p, ?_, ?_⟩
    · simp only [chg]; rw [getD_set_ne (by omega)]; exact h.a.x
    · simp only [chg, List.length_set]; exact h.l
    · simp only [chg]; exact getD_set_eq (by rw [h.l]; omega)
theorem st2 {D : Dir} {N j : Nat} {ta tb : ByteArray} {d : GDisk} (h : A1 D N j ta ⟨bE, 0⟩ d) (ht : tb.size ≤ 1000000) : appF d mfnB tb = (d, 19) ∨ ∃ d', appF d mfnB tb = (d', 0) ∧ A1 D N j ta ⟨tb, 0⟩ d' := by
  have hb : bE.size = 0 := rfl
  have hbe : bE ++ tb = tb := ky_inj (by rw [ky_app]; exact List.nil_append _)
  have e : appF d mfnB tb = prf d (chg d (ino d mfnB) ⟨tb, 0⟩) := by
    unfold appF
    rw [if_neg (by rw [h.fnd]; exact fun e => e rfl), h.file.2, if_neg (by rw [hb]; omega), hbe]
  rw [e]
  exact stchg h (by simp only [okI, show tb.size ≤ 1048576 by omega, show (0 : Int) ≤ 0 by omega, show (0 : Int) ≤ (tb.size : Int) by omega, decide_true, Bool.and_true])
theorem st3 {D : Dir} {N j : Nat} {ta tb : ByteArray} {d : GDisk} (h : A1 D N j ta ⟨tb, 0⟩ d) (ht : tb.size ≤ 1000000) : synF d mfnB = (d, 19) ∨ ∃ d', synF d mfnB = (d', 0) ∧ A1 D N j ta ⟨tb, (tb.size : Int)⟩ d' := by
  have e : synF d mfnB = prf d (chg d (ino d mfnB) ⟨tb, (tb.size : Int)⟩) := by
    unfold synF
    rw [if_neg (by rw [h.fnd]; exact fun e => e rfl), h.file.2]
  rw [e]
  exact stchg h (by simp only [okI, show tb.size ≤ 1048576 by omega, show (0 : Int) ≤ (tb.size : Int) by omega, show (tb.size : Int) ≤ (tb.size : Int) by omega, decide_true, Bool.and_true])
structure A2 (D : Dir) (N j : Nat) (ta tb : ByteArray) (d : GDisk) : Prop where
  a : At D N j ta d
  p : d.Pending = [crOp N, rnOp]
  l : d.Inodes.length = N + 1
  g : d.Inodes.getD N dGInode = ⟨tb, (tb.size : Int)⟩
theorem st4 {D : Dir} {N j : Nat} {ta tb : ByteArray} {d : GDisk} (h : A1 D N j ta ⟨tb, (tb.size : Int)⟩ d) : renF d mfnB mfB = (d, 19) ∨ ∃ d', renF d mfnB mfB = (d', 0) ∧ A2 D N j ta tb d' := by
  have hl := h.lk
  have hvL : ∀ L, -1 ≤ L → valid ⟨d.Inodes, d.Durable, d.Pending ++ [⟨2, mfnB, mfB, 0⟩], L⟩ = true := fun L hL => valid_pend h.a.v (by rw [h.p]; simp) (by
    simp only [ap, hl, mf_nm, mf_ne, show ((2 : Int) == 1) = false by rfl, show ((2 : Int) == 2) = true by rfl, show ((0 : Int) != 0) = false by rfl, cond_true, cond_false, decide_false, Bool.not_false, Bool.and_true]) L hL
  have e : renF d mfnB mfB = prf d ⟨d.Inodes, d.Durable, d.Pending ++ [⟨2, mfnB, mfB, 0⟩], d.Left⟩ := by
    unfold renF
    rw [if_neg (by rw [h.fnd]; exact fun e => e rfl), if_neg (by rw [mf_nm]; decide), if_neg mf_ne, if_neg (by rw [h.p]; simp)]
  rw [e]
  rcases prf_g (next := ⟨d.Inodes, d.Durable, d.Pending ++ [⟨2, mfnB, mfB, 0⟩], d.Left⟩) h.a.left with e | ⟨L, hL, e⟩
  · exact .inl e
  · exact .inr ⟨_, e, ⟨hvL L hL, h.a.dn, h.a.dl, h.a.nl, h.a.du, h.a.lk, h.a.nn, h.a.jn, h.a.x⟩, by simp only [h.p]; rfl, h.l, h.g⟩
theorem ap_rn {D : Dir} (hS : Srt D) (hn : lkE mfnB D = none) (n : Int) (N : Nat) : (ap n (wi ⟨mfnB, (N : Int)⟩ D) rnOp).1 = wi ⟨mfB, (N : Int)⟩ (wo (wo (wi ⟨mfnB, (N : Int)⟩ D) mfnB) mfB) := by
  have hl : lkE mfnB (wi ⟨mfnB, (N : Int)⟩ D) = some (N : Int) := by rw [lkE_wi hS hn]; simp
  simp only [ap, rnOp, hl, show ((2 : Int) == 1) = false by rfl, show ((2 : Int) == 2) = true by rfl, show ((0 : Int) != 0) = false by rfl, cond_false, cond_true]
theorem lk_rn {D : Dir} {N : Nat} (hS : Srt (wi ⟨mfnB, (N : Int)⟩ D)) : lkE mfB (wi ⟨mfB, (N : Int)⟩ (wo (wo (wi ⟨mfnB, (N : Int)⟩ D) mfnB) mfB)) = some (N : Int) := by
  have s1 := srt_wo (name := mfnB) hS
  have s2 := srt_wo (name := mfB) s1
  have hno : lkE mfB (wo (wo (wi ⟨mfnB, (N : Int)⟩ D) mfnB) mfB) = none := by rw [lkE_wo s1]; simp
  rw [lkE_wi s2 hno]; simp
theorem A2.crash {D : Dir} {N j : Nat} {ta tb : ByteArray} {d : GDisk} (h : A2 D N j ta tb d) (picks : List Int) : rdF (crF d picks) mfB = (ta, 0) ∨ rdF (crF d picks) mfB = (tb, 0) := by
  obtain ⟨c, hc⟩ := crDir_take (d := d) picks
  have hS := srtD h.a
  have hSw : Srt (wi ⟨mfnB, (N : Int)⟩ D) := srt_wi (x := ⟨mfnB, (N : Int)⟩) hS h.a.nn
  have hlk : lkE mfB (wi ⟨mfnB, (N : Int)⟩ D) = some (j : Int) := by
    rw [lkE_wi hS h.a.nn]
    simp only [show decide (mfB = mfnB) = false from decide_eq_false mf_ne, cond_false]; exact h.a.lk
  have old : lkE mfB (crDir d picks) = some (j : Int) → rdF (crF d picks) mfB = (ta, 0) := fun hl => crash_at picks h.a.v h.a.D hl (by rw [toNat_c]; exact h.a.x)
  have new : lkE mfB (crDir d picks) = some (N : Int) → rdF (crF d picks) mfB = (tb, 0) := fun hl => crash_at picks h.a.v h.a.D hl (by rw [toNat_c]; exact h.g)
  rw [h.a.du, h.p] at hc
  match c with
  | 0 => exact .inl (old (by rw [hc]; exact h.a.lk))
  | 1 =>
    rw [List.take_succ_cons, List.take_zero, aft] at hc
    refine .inl (old ?_)
    rw [hc]
    cases hap : (ap (d.Inodes.length : Int) D (crOp N)).2 with
    | false => simp only [cond_false]; rw [ap_cr]; exact hlk
    | true => simp only [cond_true, aft]; rw [ap_cr]; exact hlk
  | c + 2 =>
    rw [List.take_succ_cons, List.take_succ_cons, List.take_nil, aft] at hc
    cases hap : (ap (d.Inodes.length : Int) D (crOp N)).2 with
    | false =>
      rw [hap, cond_false, ap_cr] at hc
      exact .inl (old (by rw [hc]; exact hlk))
    | true =>
      rw [hap, cond_true, ap_cr, aft] at hc
      refine .inr (new ?_)
      rw [hc]
      cases hap2 : (ap (d.Inodes.length : Int) (wi ⟨mfnB, (N : Int)⟩ D) rnOp).2 with
      | false => simp only [cond_false]; rw [ap_rn hS h.a.nn]; exact lk_rn hSw
      | true => simp only [cond_true, aft]; rw [ap_rn hS h.a.nn]; exact lk_rn hSw
theorem A2.lk {D : Dir} {N j : Nat} {ta tb : ByteArray} {d : GDisk} (h : A2 D N j ta tb d) : lkE mfB (cur d).1 = some (N : Int) := by
  have hS := srtD h.a
  have hSw : Srt (wi ⟨mfnB, (N : Int)⟩ D) := srt_wi (x := ⟨mfnB, (N : Int)⟩) hS h.a.nn
  have hv := (valid_il h.a.v).2.2.2.2.2
  unfold cur at hv ⊢
  rw [h.p, h.a.du, aft] at hv ⊢
  cases hap : (ap (d.Inodes.length : Int) D (crOp N)).2 with
  | false => rw [hap] at hv; cases hv
  | true =>
    rw [cond_true, ap_cr, aft]
    cases hap2 : (ap (d.Inodes.length : Int) (wi ⟨mfnB, (N : Int)⟩ D) rnOp).2 with
    | false => simp only [cond_false]; rw [ap_rn hS h.a.nn]; exact lk_rn hSw
    | true => simp only [cond_true, aft]; rw [ap_rn hS h.a.nn]; exact lk_rn hSw
theorem st5 {D : Dir} {N j : Nat} {ta tb : ByteArray} {d : GDisk} (h : A2 D N j ta tb d) : sdF d = (d, 19) ∨ ∃ d', sdF d = (d', 0) ∧ Kp d' mfB tb := by
  have e : sdF d = prf d ⟨acI d (cur d).1 0 d.Inodes.length, (cur d).1.map (rnkE (cur d).1), [], d.Left⟩ := by
    unfold sdF; rw [if_neg (by rw [h.a.v]; decide)]
  rw [e]
  rcases prf_g (next := ⟨acI d (cur d).1 0 d.Inodes.length, (cur d).1.map (rnkE (cur d).1), [], d.Left⟩) h.a.left with e | ⟨L, hL, e⟩
  · exact .inl e
  · refine .inr ⟨_, e, valid_sync h.a.v h.a.D L hL, rfl, (rnk (cur d).1 N : Int), ?_, ?_⟩
    · simp only [lkE_rnk, h.lk, Option.map_some]; rfl
    · have := sd_at h.a.v h.a.D h.lk
      simp only [toNat_c] at this ⊢
      rw [this, h.g]
/-- Where Save lost power, or not. -/
def Lr (ta tb : ByteArray) (r : GDisk × Int) : Prop :=
  (r.2 = 19 ∧ ∀ picks, rdF (crF r.1 picks) mfB = (ta, 0) ∨ rdF (crF r.1 picks) mfB = (tb, 0)) ∨ (r.2 = 0 ∧ ∀ picks, rdF (crF r.1 picks) mfB = (tb, 0))
theorem lr_lost {ta tb : ByteArray} {D : Dir} {N j : Nat} {d : GDisk} (h : At D N j ta d) (hp : d.Pending = [] ∨ d.Pending = [crOp N]) : Lr ta tb (d, 19) := .inl ⟨rfl, fun picks => .inl (h.crash0 hp picks)⟩
theorem lr_svT {ta tb : ByteArray} {D : Dir} {N j : Nat} {d : GDisk} (h : At D N j ta d) (hp : d.Pending = []) (hN : d.Inodes.length = N) (ht : tb.size ≤ 1000000) (hb : Bg 100 d) : Lr ta tb (svT d tb) := by
  have hbd := gd_svT (t := tb) hb (by omega)
  generalize hr : svT d tb = r at hbd
  unfold svT at hr
  unfold thn at hr
  rcases st1 h hp hN with e | ⟨d2, e, h2⟩
  · simp only [e] at hr; subst hr
    exact lr_lost h (.inl hp)
  · simp only [e, ne_eq, not_true_eq_false, if_false] at hr
    rcases st2 h2 ht with e | ⟨d3, e, h3⟩
    · simp only [e] at hr; subst hr
      exact lr_lost h2.a (.inr h2.p)
    · simp only [e, ne_eq, not_true_eq_false, if_false] at hr
      rcases st3 h3 ht with e | ⟨d4, e, h4⟩
      · simp only [e] at hr; subst hr
        exact lr_lost h3.a (.inr h3.p)
      · simp only [e, ne_eq, not_true_eq_false, if_false] at hr
        rcases st4 h4 with e | ⟨d5, e, h5⟩
        · simp only [e] at hr; subst hr
          exact lr_lost h4.a (.inr h4.p)
        · simp only [e, ne_eq, not_true_eq_false, if_false] at hr
          rcases st5 h5 with e | ⟨d6, e, h6⟩
          · rw [e] at hr; subst hr
            exact .inl ⟨rfl, fun picks => h5.crash picks⟩
          · rw [e] at hr; subst hr
            exact .inr ⟨rfl, fun picks => kp_crash h6 (by have := (hbd (.inl rfl)).2.dl; simp only at this; omega) picks⟩
end Go.Proofs.YtomalcfghdaghaaGreatDoor

/- Plain laws of saving, 5: the law ManifestAtomic. -/
set_option linter.unusedVariables false
set_option linter.unusedSimpArgs false
namespace Go.Proofs.YtomalcfghdaghaaGreatDoor
open Go Go.AM Go.Lib
theorem at_saved {x : GDisk} {ta : ByteArray} {L : Int} (hx : St 90 x) (kp : Kp x mfB ta) (hn : lkE mfnB x.Durable = none) (hL : -1 ≤ L) : ∃ j, At x.Durable x.Inodes.length j ta ⟨x.Inodes, x.Durable, x.Pending, L⟩ := by
  obtain ⟨i, hl, hg⟩ := kp.e
  have hD : x.Durable.length ≤ 1000000000 := by have := hx.b.dl; omega
  obtain ⟨f, t, hR⟩ := cur_rd hx.v hD
  rw [cur_nil kp.p] at hR
  obtain ⟨r1, r2⟩ := hR.rng _ ((lkE_some hR.srt).1 hl)
  simp only at r1 r2
  have hj : ((i.toNat : Nat) : Int) = i := by omega
  have h1 := hx.b.dl; have h2 := hx.b.il
  exact ⟨i.toNat, valid_left hx.v hL, hx.b.dn, by omega, by omega, rfl, by rw [hj]; exact hl, hn, by omega, hg⟩
theorem lr_svF {x : GDisk} {ta tb : ByteArray} {L : Int} (hx : St 90 x) (kp : Kp x mfB ta) (hn : lkE mfnB x.Durable = none) (hL : -1 ≤ L) (ht : tb.size ≤ 1000000) : Lr ta tb (svF ⟨x.Inodes, x.Durable, x.Pending, L⟩ tb) := by
  obtain ⟨j, ha⟩ := at_saved hx kp hn hL
  have hcur : lkE mfnB (cur ⟨x.Inodes, x.Durable, x.Pending, L⟩).1 = none := by
    rw [cur_nil (d := ⟨x.Inodes, x.Durable, x.Pending, L⟩) kp.p]; exact hn
  have hr : ¬ (rdF ⟨x.Inodes, x.Durable, x.Pending, L⟩ mfnB).2 = 0 := fun e => by
    have hf := rdF_fnd e
    have := (fnd_lk hf).2
    rw [hcur] at this; cases this
  unfold svF
  rw [if_neg hr]
  exact lr_svT ha kp.p rfl ht ⟨hx.b.dn, hx.b.pn, by have := hx.b.dl; simp only; omega, by have := hx.b.il; simp only; omega⟩
theorem load_rd (n : Nat) {y : GDisk} {m : GManifest} (hv : valid y = true) (hD : y.Durable.length ≤ 1000000000) (picks : List Int) (hr : rdF (crF y picks) mfB = (sealed (ofL (txt m)), 0)) (hc : chk m = 0) (hn : 210000 ≤ n) : manifest_Load n (crF y picks) = some (m, 0) := by
  obtain ⟨k, rfl⟩ : ∃ k, n = k + 1 := ⟨n - 1, by omega⟩
  have er : disk_Read k (crF y picks) mfB = some (rdF (crF y picks) mfB) := read_d k 1000 _ mfB (crF_bd picks hv hD) (by omega)
  unfold manifest_Load
  show (disk_Read k (crF y picks) mfB).bind _ = _
  rw [er, Option.bind_some, hr]
  simp only
  rw [show ((0 : Int) != 0) = false from rfl, cond_false, dec_sealed_p k m hc (by omega)]
  rfl
theorem same_some (n : Nat) (a b : GManifest) (ha : a.Blocks.length ≤ 1000) (hn : 1100 ≤ n) : ∃ r, lookoutref24_Same n a b = some r := by
  obtain ⟨k, rfl⟩ : ∃ k, n = k + 1 := ⟨n - 1, by omega⟩
  have tot : a.Blocks.length = b.Blocks.length → ∀ (q i f : Nat), i + q = a.Blocks.length → q < f → ∃ r, lookoutref24_Same_l0 k a b f (i : Int) = some r := by
    intro hl q
    induction q with
    | zero =>
      intro i f h1 h2
      obtain ⟨f, rfl⟩ : ∃ g, f = g + 1 := ⟨f - 1, by omega⟩
      unfold lookoutref24_Same_l0
      rw [bzn (show ¬ ((i : Int) < (a.Blocks.length : Int)) by omega)]
      exact ⟨_, rfl⟩
    | succ q ih =>
      intro i f h1 h2
      obtain ⟨f, rfl⟩ : ∃ g, f = g + 1 := ⟨f - 1, by omega⟩
      unfold lookoutref24_Same_l0
      rw [bz (show (i : Int) < (a.Blocks.length : Int) by omega), dec_in i _ (by omega), dec_in i b.Blocks.length (by omega), cond_true, cond_true, wr1 i (by omega)]
      obtain ⟨r, hr⟩ := ih (i + 1) f (by omega) (by omega)
      rw [hr]
      generalize (!_ : Bool) = z
      cases z <;> exact ⟨_, rfl⟩
  unfold lookoutref24_Same
  simp only
  cases (a.Version != b.Version) with
  | true => exact ⟨_, rfl⟩
  | false =>
    cases (a.Next != b.Next) with
    | true => exact ⟨_, rfl⟩
    | false =>
      cases (a.RawFrom != b.RawFrom) with
      | true => exact ⟨_, rfl⟩
      | false =>
        cases sNe a.Log b.Log with
        | true => exact ⟨_, rfl⟩
        | false =>
          by_cases hl : a.Blocks.length = b.Blocks.length
          · rw [bff (show ((a.Blocks.length : Int) != (b.Blocks.length : Int)) = false by rw [hl]; simp)]
            exact tot hl a.Blocks.length 0 k (by omega) (by omega)
          · rw [btt (show ((a.Blocks.length : Int) != (b.Blocks.length : Int)) = true by rw [bne_iff_ne]; omega)]
            exact ⟨_, rfl⟩
theorem atomic_end (N : Nat) (y : GDisk) (code : Int) (a b : GManifest) (p4 : List Int) (hv : valid y = true) (hb : Bg 150 y) (hp : p4.length ≤ 20) (ca : chk a = 0) (cb : chk b = 0) (hN : 300000 ≤ N)
    (h : (code = 19 ∧ (rdF (crF y p4) mfB = (sealed (ofL (txt a)), 0) ∨ rdF (crF y p4) mfB = (sealed (ofL (txt b)), 0))) ∨ rdF (crF y p4) mfB = (sealed (ofL (txt b)), 0)) :
    ((disk_Crash N y p4).bind fun r13 => ((manifest_Load N r13).bind fun r14 => (bif (r14.2 == 0) then ((lookoutref24_Same N r14.1 b).bind fun r15 => (bif r15 then ((lookoutlaw24_awake N).bind fun r16 => (some r16)) else (bif (code == 19) then ((lookoutref24_Same N r14.1 a).bind fun r17 => (bif r17 then ((lookoutlaw24_awake N).bind fun r18 => (some r18)) else (some false))) else (some false)))) else (some false)))) = some true := by
  have aw := awake_eq N (by omega)
  have hD : y.Durable.length ≤ 1000000000 := by have := hb.dl; omega
  have fb : rdF (crF y p4) mfB = (sealed (ofL (txt b)), 0) → _ := fun hr => load_rd N hv hD p4 hr cb (by omega)
  have fa : rdF (crF y p4) mfB = (sealed (ofL (txt a)), 0) → _ := fun hr => load_rd N hv hD p4 hr ca (by omega)
  rw [crash_d N 200 y p4 (hb.bd (by omega)) (by omega) (by omega), Option.bind_some]
  have caseb : rdF (crF y p4) mfB = (sealed (ofL (txt b)), 0) → ((manifest_Load N (crF y p4)).bind fun r14 => (bif (r14.2 == 0) then ((lookoutref24_Same N r14.1 b).bind fun r15 => (bif r15 then ((lookoutlaw24_awake N).bind fun r16 => (some r16)) else (bif (code == 19) then ((lookoutref24_Same N r14.1 a).bind fun r17 => (bif r17 then ((lookoutlaw24_awake N).bind fun r18 => (some r18)) else (some false))) else (some false)))) else (some false))) = some true := fun hr => by
    rw [fb hr, Option.bind_some]
    simp only
    rw [show ((0 : Int) == 0) = true from rfl, cond_true, same_eq N b (good_len cb) (by omega), Option.bind_some, cond_true, aw]; rfl
  rcases h with ⟨hc, hr | hr⟩ | hr
  · rw [fa hr, Option.bind_some]
    simp only
    obtain ⟨r, hs⟩ := same_some N a b (good_len ca) (by omega)
    rw [show ((0 : Int) == 0) = true from rfl, cond_true, hs, Option.bind_some, aw]
    cases r with
    | true => rfl
    | false =>
      rw [cond_false, hc, show ((19 : Int) == 19) = true from rfl, cond_true, same_eq N a (good_len ca) (by omega), Option.bind_some, cond_true]; rfl
  · exact caseb hr
  · exact caseb hr
theorem atomic_law (x0 : GDisk) (x1 x2 : GManifest) (x3 : Int) (x4 : List Int) (h3 : 0 ≤ x3 ∧ x3 < 256) : ∃ n, lookoutlaw24_ManifestAtomic n x0 x1 x2 x3 x4 = some true := by
  refine ⟨300000 + 1 + 1, ?_⟩
  generalize hM : 300000 = M
  have hN : ∃ N, N = M + 1 := ⟨_, rfl⟩
  obtain ⟨N, hN⟩ := hN
  rw [← hN]
  have aw := awake_eq N (by omega)
  obtain ⟨g1, e1⟩ := great24 N x1 (by omega)
  obtain ⟨g2, e2⟩ := great24 N x2 (by omega)
  obtain ⟨g3, e3, hg3⟩ := great_all N x0 (by omega)
  unfold lookoutlaw24_ManifestAtomic
  simp only
  rw [e1, Option.bind_some]
  cases g1 with
  | true => rw [cond_true, aw]; rfl
  | false =>
    rw [cond_false, e2, Option.bind_some]
    cases g2 with
    | true => rw [cond_true, aw]; rfl
    | false =>
      rw [cond_false, e3, Option.bind_some]
      cases g3 with
      | true => rw [cond_true, aw]; rfl
      | false =>
        obtain ⟨b1, b2, b3, b4⟩ := hg3 rfl
        rw [cond_false]
        by_cases hp : (x4.length : Int) > 20
        · rw [bz hp, aw]; rfl
        · rw [bzn hp]
          have hb1 : Bg 80 ⟨x0.Inodes, x0.Durable, x0.Pending, -1⟩ := ⟨b1.dn, b1.pn, by simp only; omega, by simp only; omega⟩
          have hw1 : Lw ⟨x0.Inodes, x0.Durable, x0.Pending, -1⟩ := ⟨by simp only; omega, by simp only; omega⟩
          have hsv : lookoutlaw24_saved N x0 x1 = some (bif valid x0 then ((if chk x1 ≠ 0 then no 1 else svF ⟨x0.Inodes, x0.Durable, x0.Pending, -1⟩ (sealed (ofL (txt x1)))).1, ((if chk x1 ≠ 0 then no 1 else svF ⟨x0.Inodes, x0.Durable, x0.Pending, -1⟩ (sealed (ofL (txt x1)))).2 == 0)) else (⟨[], [], [], 0⟩, false)) := by
            rw [hN]
            unfold lookoutlaw24_saved
            simp only
            rw [check_eq M 200 x0 b1 (by omega), Option.bind_some]
            cases hv : valid x0 with
            | false => rfl
            | true =>
              rw [cond_true, show ((0 : Int) != 0) = false from rfl, cond_false, save_eq M _ x1 (hb1.mono (by omega)) hw1 (by omega), Option.bind_some, cond_true]
              have hv1 : valid ⟨x0.Inodes, x0.Durable, x0.Pending, -1⟩ = true := valid_left hv (by omega)
              by_cases hc : chk x1 = 0
              · rw [if_neg (show ¬ chk x1 ≠ 0 from fun e => e hc), if_neg (by rw [hv1]; decide), if_neg (show ¬ chk x1 ≠ 0 from fun e => e hc)]
              · rw [if_pos (show chk x1 ≠ 0 from hc), if_pos (show chk x1 ≠ 0 from hc)]
          rw [hsv, Option.bind_some]
          cases hv : valid x0 with
          | false => rw [cond_false]; simp only [Bool.not_false, cond_true]; rw [aw]; rfl
          | true =>
            rw [cond_true]
            by_cases c1 : chk x1 = 0
            · have hv1 : valid ⟨x0.Inodes, x0.Durable, x0.Pending, -1⟩ = true := valid_left hv (by omega)
              obtain ⟨x, ex, sx, kx, nx⟩ := svF_m (t := sealed (ofL (txt x1))) ⟨hv1, rfl, hb1⟩ (by omega) (txt_seal c1)
              rw [if_neg (show ¬ chk x1 ≠ 0 from fun e => e c1), ex]
              simp only
              rw [show (!((0 : Int) == 0)) = false from rfl, cond_false, mcheck_eq N x2 (by omega), Option.bind_some]
              by_cases c2 : chk x2 = 0
              · rw [bff (show (chk x2 != 0) = false by rw [c2]; rfl), wr x3 (by omega) (by omega)]
                have hm1 : 0 ≤ Int.tmod x3 8 := Int.tmod_nonneg _ h3.1
                have hm2 : Int.tmod x3 8 < 8 := Int.tmod_lt_of_pos _ (by omega)
                have sx90 : St 90 x := ⟨sx.v, sx.l, sx.b.mono (by omega)⟩
                have hv2 : valid ⟨x.Inodes, x.Durable, x.Pending, Int.tmod x3 8⟩ = true := valid_left sx.v (by omega)
                have hb2 : Bg 90 ⟨x.Inodes, x.Durable, x.Pending, Int.tmod x3 8⟩ := ⟨sx90.b.dn, sx90.b.pn, sx90.b.dl, sx90.b.il⟩
                have hw2 : Lw ⟨x.Inodes, x.Durable, x.Pending, Int.tmod x3 8⟩ := ⟨by simp only; omega, by simp only; omega⟩
                have hlr := lr_svF (tb := sealed (ofL (txt x2))) (L := Int.tmod x3 8) sx90 kx nx (by omega) (txt_seal c2)
                have hgd := gd_svF (t := sealed (ofL (txt x2))) hb2 (by omega)
                rw [save_eq N _ x2 (hb2.mono (by omega)) hw2 (by omega), Option.bind_some, if_neg (show ¬ chk x2 ≠ 0 from fun e => e c2), if_neg (by rw [hv2]; decide)]
                generalize svF ⟨x.Inodes, x.Durable, x.Pending, Int.tmod x3 8⟩ (sealed (ofL (txt x2))) = r at hlr hgd
                rcases hlr with ⟨h19, hcr⟩ | ⟨h0, hcr⟩
                · obtain ⟨w1, w2⟩ := hgd (.inr h19)
                  rw [btt (show (r.2 != 0) = true by rw [h19]; rfl), bff (show (r.2 != 19) = false by rw [h19]; rfl)]
                  exact atomic_end N r.1 r.2 x1 x2 x4 w1 (w2.mono (by omega)) (by omega) c1 c2 (by omega) (.inl ⟨h19, hcr x4⟩)
                · obtain ⟨w1, w2⟩ := hgd (.inl h0)
                  rw [bff (show (r.2 != 0) = false by rw [h0]; rfl)]
                  exact atomic_end N r.1 r.2 x1 x2 x4 w1 (w2.mono (by omega)) (by omega) c1 c2 (by omega) (.inr (hcr x4))
              · rw [btt (show (chk x2 != 0) = true by rw [bne_iff_ne]; exact c2), aw]; rfl
            · rw [if_pos (show chk x1 ≠ 0 from c1)]
              simp only [no]
              rw [show (!((1 : Int) == 0)) = true from rfl, cond_true, aw]; rfl
end Go.Proofs.YtomalcfghdaghaaGreatDoor
