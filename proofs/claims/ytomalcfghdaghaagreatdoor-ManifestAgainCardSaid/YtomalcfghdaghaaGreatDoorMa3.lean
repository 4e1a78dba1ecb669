/- Plain laws of saving, 1: what Save does to a disk. -/
import Derived.Test.YtomalcfghdaghaaGreatDoorMn8
import Derived.Test.YtomalcfghdaghaaGreatDoorWf
set_option linter.unusedVariables false
set_option linter.unusedSimpArgs false
namespace Go.Proofs.YtomalcfghdaghaaGreatDoor
open Go Go.AM Go.Lib
/-! ### Sizes -/
theorem out_crt {c : Nat} {d : GDisk} {name : ByteArray} (h : Bg c d) : Out c d (crtF d name) := by
  have hil := h.il; have hdl := h.dl
  have hb : bE.size = 0 := rfl
  unfold crtF
  split
  · exact out_no (by omega) (by omega)
  · split
    · exact out_no (by omega) (by omega)
    · split
      · exact out_no (by omega) (by omega)
      · split
        · exact out_no (by omega) (by omega)
        · split
          · exact out_no (by omega) (by omega)
          · rename_i hn _ _ _
            have := isNm_size (s := name) (by simpa using hn)
            exact out_prf (bg_pend h (by simp only [hb]; omega) (by simp; omega))
theorem out_sd {c : Nat} {d : GDisk} (h : Bg c d) (hD : c ≤ 1000000) : Out c d (sdF d) := by
  have hil := h.il; have hdl := h.dl
  unfold sdF
  split
  · exact out_no (by omega) (by omega)
  · rename_i hv
    have hv : valid d = true := by simpa using hv
    obtain ⟨f, t, hR⟩ := cur_rd hv (by omega)
    have hl : (cur d).1.length ≤ d.Durable.length + d.Pending.length := aft_len _ _ _
    have hal := acI_len d (cur d).1 d.Inodes.length 0
    have hrk := rnk_le (cur d).1 (0 + d.Inodes.length)
    refine out_prf ⟨fun e he => ?_, fun x hx => by simp at hx, by simp; omega, by simp only; omega⟩
    obtain ⟨e0, he0, rfl⟩ := List.mem_map.1 he
    have := isNm_size (hR.nms e0 he0)
    simp only [rnkE]; omega
theorem out_syn {c : Nat} {d : GDisk} {name : ByteArray} (h : Bg c d) : Out c d (synF d name) := by
  unfold synF
  split
  · rename_i e; exact out_fnd e
  · exact out_prf (bg_chg h)
theorem out_app {c : Nat} {d : GDisk} {name data : ByteArray} (h : Bg c d) : Out c d (appF d name data) := by
  unfold appF
  split
  · rename_i e; exact out_fnd e
  · split
    · exact out_no (by omega) (by omega)
    · exact out_prf (bg_chg h)
theorem out_ren {c : Nat} {d : GDisk} {name to : ByteArray} (h : Bg c d) (hs : name.size + to.size ≤ 200) : Out c d (renF d name to) := by
  have hil := h.il
  unfold renF
  split
  · rename_i e; exact out_fnd e
  · split
    · exact out_no (by omega) (by omega)
    · split
      · exact out_no (by omega) (by omega)
      · split
        · exact out_no (by omega) (by omega)
        · exact out_prf (bg_pend h hs (by omega))
theorem out_rem {c : Nat} {d : GDisk} {name : ByteArray} (h : Bg c d) (hs : name.size ≤ 200) : Out c d (remF d name) := by
  have hil := h.il
  have hb : bE.size = 0 := rfl
  unfold remF
  split
  · rename_i e; exact out_fnd e
  · split
    · exact out_no (by omega) (by omega)
    · exact out_prf (bg_pend h (by simp only [hb]; omega) (by omega))
theorem out_next {c : Nat} {d : GDisk} {r : GDisk × Int} (h : Out c d r) (h0 : r.2 = 0) (hw : Lw d) : Bg (c + 1) r.1 ∧ Lw r.1 := by
  obtain ⟨h1, h2, h3⟩ := h.ok h0
  have w1 := hw.lo; have w2 := hw.hi
  refine ⟨h3, ?_, ?_⟩ <;> rw [h2] <;> split <;> omega
/-! ### Save -/
def thn (r : GDisk × Int) (f : GDisk → GDisk × Int) : GDisk × Int := if r.2 ≠ 0 then r else f r.1
def svT (d : GDisk) (t : ByteArray) : GDisk × Int := thn (crtF d mfnB) fun d2 => thn (appF d2 mfnB t) fun d3 => thn (synF d3 mfnB) fun d4 => thn (renF d4 mfnB mfB) sdF
def svF (d : GDisk) (t : ByteArray) : GDisk × Int := if (rdF d mfnB).2 = 0 then thn (remF d mfnB) (fun d1 => svT d1 t) else svT d t
theorem thn_bind {x : Option (GDisk × Int)} {r : GDisk × Int} (hx : x = some r) {K : GDisk × Int → Option (GDisk × Int)} {f : GDisk → GDisk × Int} (hK : r.2 = 0 → K r = some (f r.1)) : (x.bind fun r => bif (r.2 != 0) then some (r.1, r.2) else K r) = some (thn r f) := by
  rw [hx, Option.bind_some]
  unfold thn
  by_cases h : r.2 = 0
  · rw [bff (by rw [h]; rfl), if_neg (fun e => e h)]; exact hK h
  · rw [btt (by rw [bne_iff_ne]; exact h), if_pos h]
theorem mfn_size : mfnB.size = 12 := rfl
theorem mf_size : mfB.size = 8 := rfl
theorem sv_tail (n : Nat) (d : GDisk) (t : ByteArray) (h : Bg 150 d) (hw : Lw d) (ht : t.size ≤ 1000000000) (hn : 5000 ≤ n) :
    ((manifest_Save_c2 n d).bind fun r10 => (bif (r10.2 != 0) then (some (r10.1, r10.2)) else ((manifest_Save_c3 n r10.1 t).bind fun r11 => (bif (r11.2 != 0) then (some (r11.1, r11.2)) else ((manifest_Save_c4 n r11.1).bind fun r12 => (bif (r12.2 != 0) then (some (r12.1, r12.2)) else ((manifest_Save_c5 n r12.1).bind fun r13 => (bif (r13.2 != 0) then (some (r13.1, r13.2)) else ((disk_SyncDir n r13.1).bind fun r14 => (bif (r14.2 != 0) then (some (r14.1, r14.2)) else (some (r14.1, 0)))))))))))) = some (svT d t) := by
  obtain ⟨m, rfl⟩ : ∃ m, n = m + 1 := ⟨n - 1, by omega⟩
  have e2 : manifest_Save_c2 (m + 1) d = some (crtF d mfnB) := by
    show (disk_Create m d mfnB).bind _ = _
    rw [create_f m 200 d mfnB (h.bd (by omega)) hw (by omega)]; rfl
  refine thn_bind e2 fun z2 => ?_
  obtain ⟨g2, w2⟩ := out_next (out_crt h) z2 hw
  have e3 : manifest_Save_c3 (m + 1) (crtF d mfnB).1 t = some (appF (crtF d mfnB).1 mfnB t) := by
    show (disk_Append m _ mfnB t).bind _ = _
    rw [append_f m 200 _ mfnB t (g2.bd (by omega)) w2 (by omega) ht]; rfl
  refine thn_bind e3 fun z3 => ?_
  obtain ⟨g3, w3⟩ := out_next (out_app g2) z3 w2
  have e4 : manifest_Save_c4 (m + 1) (appF (crtF d mfnB).1 mfnB t).1 = some (synF (appF (crtF d mfnB).1 mfnB t).1 mfnB) := by
    show (disk_Sync m _ mfnB).bind _ = _
    rw [sync_f m 200 _ mfnB (g3.bd (by omega)) w3 (by omega)]; rfl
  refine thn_bind e4 fun z4 => ?_
  obtain ⟨g4, w4⟩ := out_next (out_syn g3) z4 w3
  have e5 : manifest_Save_c5 (m + 1) (synF (appF (crtF d mfnB).1 mfnB t).1 mfnB).1 = some (renF (synF (appF (crtF d mfnB).1 mfnB t).1 mfnB).1 mfnB mfB) := by
    show (disk_Rename m _ mfnB mfB).bind _ = _
    rw [rename_f m 200 _ mfnB mfB (g4.bd (by omega)) w4 (by omega)]; rfl
  refine thn_bind e5 fun z5 => ?_
  obtain ⟨g5, w5⟩ := out_next (out_ren g4 (by rw [mfn_size, mf_size]; omega)) z5 w4
  rw [syncdir_f (m + 1) 200 _ (g5.bd (by omega)) w5 (by omega), Option.bind_some]
  generalize sdF (renF (synF (appF (crtF d mfnB).1 mfnB t).1 mfnB).1 mfnB mfB).1 = r
  by_cases h6 : r.2 = 0
  · rw [bff (by rw [h6]; rfl), ← h6]
  · rw [btt (by rw [bne_iff_ne]; exact h6)]
theorem save_eq (n : Nat) (d : GDisk) (m : GManifest) (h : Bg 120 d) (hw : Lw d) (hn : 40000 ≤ n) : manifest_Save n d m = some (if chk m ≠ 0 then no 1 else if valid d = false then no 1 else svF d (sealed (ofL (txt m)))) := by
  obtain ⟨k, rfl⟩ : ∃ k, n = k + 9 := ⟨n - 9, by omega⟩
  unfold manifest_Save
  simp only
  rw [encode_eq (k + 8) m (by omega), Option.bind_some, encd]
  by_cases hc : chk m = 0
  · have hlen := txt_len (chk_good hc)
    have hsz : (ofL (txt m)).size = (txt m).length := ofL_size _
    have hss := seal_size (ofL (txt m))
    rw [if_neg (show ¬ chk m ≠ 0 from fun e => e hc), if_neg (show ¬ chk m ≠ 0 from fun e => e hc)]
    simp only
    rw [show ((0 : Int) != 0) = false from rfl, cond_false, check_eq (k + 8) 200 d (h.bd (by omega)) (by omega), Option.bind_some]
    generalize sealed (ofL (txt m)) = t at hss
    cases hv : valid d with
    | false => rfl
    | true =>
      rw [cond_true, show ((0 : Int) != 0) = false from rfl, cond_false, if_neg (show ¬ true = false by decide)]
      have er : disk_Read (k + 8) d (⟨#[77, 65, 78, 73, 70, 69, 83, 84, 46, 110, 101, 119]⟩ : ByteArray) = some (rdF d mfnB) := read_d (k + 8) 200 d mfnB (h.bd (by omega)) (by omega)
      rw [er, Option.bind_some]
      unfold svF
      by_cases hr : (rdF d mfnB).2 = 0
      · rw [btt (show ((rdF d mfnB).2 == 0) = true by rw [hr]; rfl), if_pos hr]
        have e1 : manifest_Save_c1 (k + 8) d = some (remF d mfnB) := by
          show (disk_Remove (k + 7) d mfnB).bind _ = _
          rw [remove_f (k + 7) 200 d mfnB (h.bd (by omega)) hw (by omega)]; rfl
        refine thn_bind e1 fun z1 => ?_
        obtain ⟨g1, w1⟩ := out_next (out_rem h (by rw [mfn_size]; omega)) z1 hw
        exact sv_tail (k + 8) _ t (g1.mono (by omega)) w1 (by omega) (by omega)
      · rw [bff (show ((rdF d mfnB).2 == 0) = false by rw [beq_eq_false_iff_ne]; exact hr), if_neg hr]
        exact sv_tail (k + 8) d t (h.mono (by omega)) hw (by omega) (by omega)
  · rw [if_pos (show chk m ≠ 0 from hc), if_pos (show chk m ≠ 0 from hc)]; rfl
end Go.Proofs.YtomalcfghdaghaaGreatDoor

/- Plain laws of saving, 2: without a loss of power Save succeeds, and what was saved outlasts a crash; what Save leaves is valid. -/
set_option linter.unusedVariables false
set_option linter.unusedSimpArgs false
namespace Go.Proofs.YtomalcfghdaghaaGreatDoor
open Go Go.AM Go.Lib
theorem prf_neg {d next : GDisk} (hL : d.Left = -1) : prf d next = (⟨next.Inodes, next.Durable, next.Pending, -1⟩, 0) := by
  unfold prf; rw [if_neg (by omega), hL]; rfl
/-- A disk at hand: valid, never without power, few inodes and operations. -/
structure St (c : Nat) (d : GDisk) : Prop where
  v : valid d = true
  l : d.Left = -1
  b : Bg c d
theorem St.D {c : Nat} {d : GDisk} (h : St c d) (hc : c ≤ 900) : d.Durable.length ≤ 1000000000 := by have := h.b.dl; omega
theorem fnd_con {d : GDisk} {name s : ByteArray} (h : con d name = some s) : (fnd d name).2 = 0 := rdF_fnd (by rw [rdF_some h])
theorem con_nolk {d : GDisk} {name : ByteArray} (hv : valid d = true) (h : con d name = none) : lkE name (cur d).1 = none := by
  rw [con_map hv] at h; exact Option.map_eq_none_iff.1 h
theorem rem_m {c : Nat} {d : GDisk} {name : ByteArray} (h : St c d) (hc : c ≤ 900) (hs : name.size ≤ 200) (hf : (fnd d name).2 = 0) :
    ∃ d', remF d name = (d', 0) ∧ St (c + 1) d' ∧ lkE name (cur d').1 = none := by
  have hdl := h.b.dl; have hil := h.b.il
  have hb : bE.size = 0 := rfl
  obtain ⟨hv, hl⟩ := fnd_lk hf
  have hx : valid ⟨d.Inodes, d.Durable, d.Pending ++ [⟨3, name, bE, 0⟩], -1⟩ = true := valid_pend hv (by omega) (by
    simp only [ap, hl, show ((3 : Int) == 1) = false by rfl, show ((3 : Int) == 2) = false by rfl, show ((3 : Int) == 3) = true by rfl, show ((0 : Int) != 0) = false by rfl, cond_false, decide_true, Bool.and_true]) (-1) (by omega)
  refine ⟨⟨d.Inodes, d.Durable, d.Pending ++ [⟨3, name, bE, 0⟩], -1⟩, ?_, ⟨hx, rfl, ?_⟩, ?_⟩
  · unfold remF; rw [if_neg (fun e => e hf), if_neg (by omega), prf_neg h.l]
  · have := bg_pend (x := ⟨3, name, bE, 0⟩) (I := d.Inodes) h.b (by simp only [hb]; omega) (by omega)
    exact ⟨this.dn, this.pn, this.dl, this.il⟩
  · refine con_nolk hx ?_
    rw [con_rem (h.D hc) hf hx, if_pos rfl]
theorem crt_m {c : Nat} {d : GDisk} {name : ByteArray} (h : St c d) (hc : c ≤ 900) (hnm : isNm name = true) (hn : lkE name (cur d).1 = none) :
    ∃ d', crtF d name = (d', 0) ∧ St (c + 1) d' ∧ con d' name = some bE := by
  have hdl := h.b.dl; have hil := h.b.il
  have hb : bE.size = 0 := rfl
  have hsz := isNm_size hnm
  have hx : valid ⟨d.Inodes ++ [⟨bE, 0⟩], d.Durable, d.Pending ++ [⟨1, name, bE, (d.Inodes.length : Int)⟩], -1⟩ = true := valid_new h.v (by omega) (by omega) (by
    obtain ⟨f, t, hR⟩ := cur_rd h.v (h.D hc)
    have hu : usedE (cur d).1 (d.Inodes.length : Int) = false := by
      cases hu : usedE (cur d).1 (d.Inodes.length : Int) with
      | false => rfl
      | true => obtain ⟨e, he, hh⟩ := usedE_iff.1 hu; have := (hR.rng e he).2; omega
    simp only [ap, show ((1 : Int) == 1) = true by rfl, cond_true, hnm, hn, Option.isNone_none, hu, show ((d.Inodes.length : Int) ≥ 0) by omega, show ((d.Inodes.length : Int) < (d.Inodes.length : Int) + 1) by omega, decide_true, Bool.not_false, Bool.and_true]) (-1) (by omega)
  refine ⟨⟨d.Inodes ++ [⟨bE, 0⟩], d.Durable, d.Pending ++ [⟨1, name, bE, (d.Inodes.length : Int)⟩], -1⟩, ?_, ⟨hx, rfl, ?_⟩, ?_⟩
  · unfold crtF
    rw [if_neg (by rw [h.v]; decide), if_neg (by rw [hnm]; decide), if_neg (by rw [hn]; decide), if_neg (by omega), if_neg (by omega), prf_neg h.l]
  · have := bg_pend (x := ⟨1, name, bE, (d.Inodes.length : Int)⟩) (I := d.Inodes ++ [⟨bE, 0⟩]) h.b (by simp only [hb]; omega) (by simp; omega)
    exact ⟨this.dn, this.pn, this.dl, this.il⟩
  · rw [con_crt h.v (h.D hc) hn hx, if_pos rfl]
theorem app_m {c : Nat} {d : GDisk} {name t : ByteArray} (h : St c d) (hc : c ≤ 900) (ht : t.size ≤ 1000000) (hcon : con d name = some bE) :
    ∃ d', appF d name t = (d', 0) ∧ St (c + 1) d' ∧ con d' name = some t := by
  have hf := fnd_con hcon
  have hfile := con_fnd hf
  rw [hcon] at hfile
  have hdat : (file d name).Data = bE := (Option.some.inj hfile).symm
  obtain ⟨o1, o2, o3, o4, o5, o6⟩ := file_ok (h.D hc) hf
  obtain ⟨p1, p2, p3⟩ := okI_spec o1
  have hbe : bE ++ t = t := ky_inj (by rw [ky_app]; exact List.nil_append _)
  have hb : bE.size = 0 := rfl
  have hx : valid ⟨d.Inodes.set (ino d name) ⟨(file d name).Data ++ t, (file d name).Synced⟩, d.Durable, d.Pending, -1⟩ = true := valid_chg h.v (by
    rw [hdat] at p3 ⊢
    rw [hbe]
    simp only [okI, show t.size ≤ 1048576 by omega, p2, show (file d name).Synced ≤ (t.size : Int) by omega, decide_true, Bool.and_true]) (-1) (by omega)
  refine ⟨_, ?_, ⟨hx, rfl, ?_⟩, ?_⟩
  · unfold appF; rw [if_neg (fun e => e hf), if_neg (by rw [hdat, hb]; omega), prf_neg h.l]; rfl
  · have := bg_chg (i := ino d name) (x := ⟨(file d name).Data ++ t, (file d name).Synced⟩) h.b
    exact ⟨this.dn, this.pn, this.dl, this.il⟩
  · rw [con_chg (h.D hc) hf hx, if_pos rfl, hdat, hbe]
theorem lk_fnd {d : GDisk} {name : ByteArray} {i : Int} (hv : valid d = true) (hl : lkE name (cur d).1 = some i) : fnd d name = (i, 0) := by
  unfold fnd; rw [hv, cond_true, hl]
theorem syn_m {c : Nat} {d : GDisk} {name t : ByteArray} (h : St c d) (hc : c ≤ 900) (hcon : con d name = some t) :
    ∃ d' i, synF d name = (d', 0) ∧ St (c + 1) d' ∧ lkE name (cur d').1 = some i ∧ d'.Inodes.getD i.toNat dGInode = ⟨t, (t.size : Int)⟩ := by
  have hf := fnd_con hcon
  have hfile := con_fnd hf
  rw [hcon] at hfile
  have hdat : (file d name).Data = t := (Option.some.inj hfile).symm
  obtain ⟨o1, o2, o3, o4, o5, o6⟩ := file_ok (h.D hc) hf
  obtain ⟨p1, p2, p3⟩ := okI_spec o1
  obtain ⟨hv, hl⟩ := fnd_lk hf
  rw [hdat] at p1
  have hx : valid ⟨d.Inodes.set (ino d name) ⟨t, (t.size : Int)⟩, d.Durable, d.Pending, -1⟩ = true := valid_chg h.v (by
    simp only [okI, p1, show (0 : Int) ≤ (t.size : Int) by omega, show (t.size : Int) ≤ (t.size : Int) by omega, decide_true, Bool.and_true]) (-1) (by omega)
  refine ⟨⟨d.Inodes.set (ino d name) ⟨t, (t.size : Int)⟩, d.Durable, d.Pending, -1⟩, (fnd d name).1, ?_, ⟨hx, rfl, ?_⟩, ?_, ?_⟩
  · unfold synF; rw [if_neg (fun e => e hf), hdat, prf_neg h.l]; rfl
  · have := bg_chg (i := ino d name) (x := ⟨t, (t.size : Int)⟩) h.b
    exact ⟨this.dn, this.pn, this.dl, this.il⟩
  · unfold cur; simp only [List.length_set]; exact hl
  · exact getD_set_eq o2
theorem ren_m {c : Nat} {d : GDisk} {name to : ByteArray} {i : Int} (h : St c d) (hc : c ≤ 900) (hnm : isNm to = true) (hne : to ≠ name) (hs : name.size + to.size ≤ 200) (hl : lkE name (cur d).1 = some i) :
    ∃ d', renF d name to = (d', 0) ∧ St (c + 1) d' ∧ lkE to (cur d').1 = some i ∧ d'.Inodes = d.Inodes := by
  have hdl := h.b.dl; have hil := h.b.il
  have hf : (fnd d name).2 = 0 := by rw [lk_fnd h.v hl]
  have hx : valid ⟨d.Inodes, d.Durable, d.Pending ++ [⟨2, name, to, 0⟩], -1⟩ = true := valid_pend h.v (by omega) (by
    simp only [ap, hl, hnm, hne, show ((2 : Int) == 1) = false by rfl, show ((2 : Int) == 2) = true by rfl, show ((0 : Int) != 0) = false by rfl, cond_true, cond_false, decide_false, Bool.not_false, Bool.and_true]) (-1) (by omega)
  refine ⟨⟨d.Inodes, d.Durable, d.Pending ++ [⟨2, name, to, 0⟩], -1⟩, ?_, ⟨hx, rfl, ?_⟩, ?_, rfl⟩
  · unfold renF; rw [if_neg (fun e => e hf), if_neg (by rw [hnm]; decide), if_neg hne, if_neg (by omega), prf_neg h.l]
  · have := bg_pend (x := ⟨2, name, to, 0⟩) (I := d.Inodes) h.b hs (by omega)
    exact ⟨this.dn, this.pn, this.dl, this.il⟩
  · obtain ⟨f, t, hR⟩ := cur_rd h.v (h.D hc)
    have i6 := (valid_il h.v).2.2.2.2.2
    have hcur : cur ⟨d.Inodes, d.Durable, d.Pending ++ [⟨2, name, to, 0⟩], -1⟩ = ap (d.Inodes.length : Int) (cur d).1 ⟨2, name, to, 0⟩ := aft_app i6
    have hap : (ap (d.Inodes.length : Int) (cur d).1 ⟨2, name, to, 0⟩).1 = wi ⟨to, i⟩ (wo (wo (cur d).1 name) to) := by
      simp only [ap, hl, show ((2 : Int) == 1) = false by rfl, show ((2 : Int) == 2) = true by rfl, show ((0 : Int) != 0) = false by rfl, cond_false, cond_true]
    have s1 := srt_wo (name := name) hR.srt
    have s2 := srt_wo (name := to) s1
    have hno : lkE to (wo (wo (cur d).1 name) to) = none := by rw [lkE_wo s1]; simp
    rw [hcur, hap, lkE_wi s2 hno]
    simp
theorem sd_m {c : Nat} {d : GDisk} {name : ByteArray} {i : Int} {x : GInode} (h : St c d) (hc : c ≤ 900) (hl : lkE name (cur d).1 = some i) (hi : d.Inodes.getD i.toNat dGInode = x) :
    ∃ d' j, sdF d = (d', 0) ∧ St (c + 1) d' ∧ d'.Pending = [] ∧ lkE name d'.Durable = some j ∧ d'.Inodes.getD j.toNat dGInode = x := by
  have hx := valid_sync h.v (h.D hc) (-1) (by omega)
  have hsd : sdF d = (⟨acI d (cur d).1 0 d.Inodes.length, (cur d).1.map (rnkE (cur d).1), [], -1⟩, 0) := by
    unfold sdF; rw [if_neg (by rw [h.v]; decide), prf_neg h.l]
  have ho := (out_sd h.b (by omega)).ok (by rw [hsd])
  refine ⟨_, (rnk (cur d).1 i.toNat : Int), hsd, ⟨hx, rfl, ?_⟩, rfl, ?_, ?_⟩
  · have := ho.2.2
    rw [hsd] at this; exact this
  · simp only [lkE_rnk, hl, Option.map_some]
  · have := sd_at h.v (h.D hc) hl
    simp only [toNat_c]
    rw [this, hi]
/-- What is durable of a file: its entry, its bytes all synchronized, nothing pending. -/
structure Kp (d : GDisk) (name t : ByteArray) : Prop where
  v : valid d = true
  p : d.Pending = []
  e : ∃ j, lkE name d.Durable = some j ∧ d.Inodes.getD j.toNat dGInode = ⟨t, (t.size : Int)⟩
theorem mfn_nm : isNm mfnB = true := by decide
theorem mf_nm : isNm mfB = true := by decide
theorem mf_ne : mfB ≠ mfnB := by decide
theorem svT_m {c : Nat} {d : GDisk} {t : ByteArray} (h : St c d) (hc : c ≤ 800) (ht : t.size ≤ 1000000) (hn : lkE mfnB (cur d).1 = none) : ∃ y, svT d t = (y, 0) ∧ St (c + 5) y ∧ Kp y mfB t := by
  obtain ⟨d2, e2, s2, c2⟩ := crt_m h (by omega) mfn_nm hn
  obtain ⟨d3, e3, s3, c3⟩ := app_m s2 (by omega) ht c2
  obtain ⟨d4, i, e4, s4, l4, x4⟩ := syn_m s3 (by omega) c3
  obtain ⟨d5, e5, s5, l5, x5⟩ := ren_m s4 (by omega) mf_nm mf_ne (by rw [mfn_size, mf_size]; omega) l4
  obtain ⟨d6, j, e6, s6, p6, l6, x6⟩ := sd_m (x := ⟨t, (t.size : Int)⟩) s5 (by omega) l5 (by rw [x5]; exact x4)
  refine ⟨d6, ?_, s6, s6.v, p6, j, l6, x6⟩
  unfold svT thn
  simp only [e2, e3, e4, e5, e6, ne_eq, not_true_eq_false, if_false]
theorem svF_m {c : Nat} {d : GDisk} {t : ByteArray} (h : St c d) (hc : c ≤ 700) (ht : t.size ≤ 1000000) : ∃ y, svF d t = (y, 0) ∧ St (c + 6) y ∧ Kp y mfB t := by
  unfold svF
  by_cases hr : (rdF d mfnB).2 = 0
  · rw [if_pos hr]
    obtain ⟨d1, e1, s1, l1⟩ := rem_m h (by omega) (by rw [mfn_size]; omega) (rdF_fnd hr)
    obtain ⟨y, ey, sy, ky⟩ := svT_m s1 (by omega) ht l1
    refine ⟨y, ?_, sy, ky⟩
    unfold thn
    simp only [e1, ne_eq, not_true_eq_false, if_false]; exact ey
  · rw [if_neg hr]
    have hn : lkE mfnB (cur d).1 = none := by
      cases hl : lkE mfnB (cur d).1 with
      | none => rfl
      | some i => exact absurd (by rw [rd_some h.v hl]) hr
    obtain ⟨y, ey, sy, ky⟩ := svT_m h (by omega) ht hn
    exact ⟨y, ey, ⟨sy.v, sy.l, sy.b.mono (by omega)⟩, ky⟩
theorem kp_crash {y : GDisk} {name t : ByteArray} (h : Kp y name t) (hD : y.Durable.length ≤ 1000000000) (picks : List Int) : rdF (crF y picks) name = (t, 0) := by
  obtain ⟨j, hl, hx⟩ := h.e
  have hcd : crDir y picks = y.Durable := crDir_nil picks h.p
  obtain ⟨k, k1, k2, k3, _, _, k4⟩ := (con_crF picks h.v hD name).2 j (by rw [hcd]; exact hl)
  rw [hx] at k1 k2 k4
  have hk : k.toNat = t.size := by simp only at k1 k2; omega
  rw [hk] at k4
  simp only at k4
  rw [extract_all t t.size (Nat.le_refl _)] at k4
  exact rdF_some k4
/-! ### What Save leaves is valid -/
def Vd (r : GDisk × Int) : Prop := r.2 = 0 ∨ r.2 = 19 → valid r.1 = true
theorem vd_no {e : Int} (h0 : e ≠ 0) (h1 : e ≠ 19) : Vd (no e) := fun h => h.elim (fun h => absurd h h0) (fun h => absurd h h1)
theorem vd_prf {d next : GDisk} (hv : valid d = true) (hn : ∀ L, -1 ≤ L → valid ⟨next.Inodes, next.Durable, next.Pending, L⟩ = true) : Vd (prf d next) := fun _ => valid_prf hv hn
theorem vd_fnd {d : GDisk} {name : ByteArray} (h : (fnd d name).2 ≠ 0) : Vd (no (fnd d name).2) := by
  rcases fnd_e d name with e | e | e
  · exact absurd e h
  · rw [e]; exact vd_no (by omega) (by omega)
  · rw [e]; exact vd_no (by omega) (by omega)
theorem vd_crt {d : GDisk} {name : ByteArray} (hD : d.Durable.length ≤ 1000000000) : Vd (crtF d name) := by
  unfold crtF
  split
  · exact vd_no (by omega) (by omega)
  · rename_i hv
    have hv : valid d = true := by simpa using hv
    split
    · exact vd_no (by omega) (by omega)
    · rename_i hnm
      split
      · exact vd_no (by omega) (by omega)
      · rename_i hnn
        split
        · exact vd_no (by omega) (by omega)
        · split
          · exact vd_no (by omega) (by omega)
          · rename_i c1 c2
            refine vd_prf hv (fun L hL => valid_new hv (by omega) (by omega) ?_ L hL)
            obtain ⟨f, t, hR⟩ := cur_rd hv hD
            have hu : usedE (cur d).1 (d.Inodes.length : Int) = false := by
              cases hu : usedE (cur d).1 (d.Inodes.length : Int) with
              | false => rfl
              | true => obtain ⟨e, he, hh⟩ := usedE_iff.1 hu; have := (hR.rng e he).2; omega
            have e1 : isNm name = true := by simpa using hnm
            have e2 : (lkE name (cur d).1).isNone = true := by simpa using hnn
            simp only [ap, show ((1 : Int) == 1) = true by rfl, cond_true, e1, e2, hu, show ((d.Inodes.length : Int) ≥ 0) by omega, show ((d.Inodes.length : Int) < (d.Inodes.length : Int) + 1) by omega, decide_true, Bool.not_false, Bool.and_true]
theorem vd_app {d : GDisk} {name data : ByteArray} (hD : d.Durable.length ≤ 1000000000) : Vd (appF d name data) := by
  unfold appF
  split
  · rename_i he; exact vd_fnd he
  · rename_i he
    have he : (fnd d name).2 = 0 := by simpa using he
    obtain ⟨o1, o2, o3, o4, o5, o6⟩ := file_ok hD he
    obtain ⟨p1, p2, p3⟩ := okI_spec o1
    split
    · exact vd_no (by omega) (by omega)
    · rename_i c
      refine vd_prf (fnd_lk he).1 (fun L hL => valid_chg (fnd_lk he).1 ?_ L hL)
      simp only [okI, ByteArray.size_append, show (file d name).Data.size + data.size ≤ 1048576 by omega, p2, show (file d name).Synced ≤ (((file d name).Data.size + data.size : Nat) : Int) by omega, decide_true, Bool.and_true]
theorem vd_syn {d : GDisk} {name : ByteArray} (hD : d.Durable.length ≤ 1000000000) : Vd (synF d name) := by
  unfold synF
  split
  · rename_i he; exact vd_fnd he
  · rename_i he
    have he : (fnd d name).2 = 0 := by simpa using he
    obtain ⟨o1, o2, o3, o4, o5, o6⟩ := file_ok hD he
    obtain ⟨p1, p2, p3⟩ := okI_spec o1
    refine vd_prf (fnd_lk he).1 (fun L hL => valid_chg (fnd_lk he).1 ?_ L hL)
    simp only [okI, p1, show (0 : Int) ≤ ((file d name).Data.size : Int) by omega, show ((file d name).Data.size : Int) ≤ ((file d name).Data.size : Int) by omega, decide_true, Bool.and_true]
theorem vd_sd {d : GDisk} (hD : d.Durable.length ≤ 1000000000) : Vd (sdF d) := by
  unfold sdF
  split
  · exact vd_no (by omega) (by omega)
  · rename_i hv
    have hv : valid d = true := by simpa using hv
    exact vd_prf hv (fun L hL => valid_sync hv hD L hL)
theorem vd_ren {d : GDisk} {name to : ByteArray} : Vd (renF d name to) := by
  unfold renF
  split
  · rename_i he; exact vd_fnd he
  · rename_i he
    have he : (fnd d name).2 = 0 := by simpa using he
    obtain ⟨hv, hl⟩ := fnd_lk he
    split
    · exact vd_no (by omega) (by omega)
    · rename_i hnm
      split
      · exact vd_no (by omega) (by omega)
      · rename_i hne
        split
        · exact vd_no (by omega) (by omega)
        · rename_i c
          refine vd_prf hv (fun L hL => valid_pend hv (by omega) ?_ L hL)
          have e1 : isNm to = true := by simpa using hnm
          simp only [ap, hl, e1, hne, show ((2 : Int) == 1) = false by rfl, show ((2 : Int) == 2) = true by rfl, show ((0 : Int) != 0) = false by rfl, cond_true, cond_false, decide_false, Bool.not_false, Bool.and_true]
theorem vd_rem {d : GDisk} {name : ByteArray} : Vd (remF d name) := by
  unfold remF
  split
  · rename_i he; exact vd_fnd he
  · rename_i he
    have he : (fnd d name).2 = 0 := by simpa using he
    obtain ⟨hv, hl⟩ := fnd_lk he
    split
    · exact vd_no (by omega) (by omega)
    · rename_i c
      refine vd_prf hv (fun L hL => valid_pend hv (by omega) ?_ L hL)
      simp only [ap, hl, show ((3 : Int) == 1) = false by rfl, show ((3 : Int) == 2) = false by rfl, show ((3 : Int) == 3) = true by rfl, show ((0 : Int) != 0) = false by rfl, cond_false, decide_true, Bool.and_true]
/-- Valid where it succeeded or lost power, and not much greater. -/
def Gd (c : Nat) (r : GDisk × Int) : Prop := (r.2 = 0 ∨ r.2 = 19) → valid r.1 = true ∧ Bg c r.1
theorem gd_op {c : Nat} {d : GDisk} {r : GDisk × Int} (hb : Bg c d) (ho : Out c d r) (hv : Vd r) : Gd (c + 1) r := fun h => by
  refine ⟨hv h, ?_⟩
  rcases h with h | h
  · exact (ho.ok h).2.2
  · rw [(ho.lost h).2]; exact hb.mono (by omega)
theorem gd_thn {c c' : Nat} {r : GDisk × Int} {f : GDisk → GDisk × Int} (hc : c ≤ c') (h : Gd c r) (hf : r.2 = 0 → Bg c r.1 → Gd c' (f r.1)) : Gd c' (thn r f) := by
  unfold thn
  by_cases h0 : r.2 = 0
  · rw [if_neg (fun e => e h0)]; exact hf h0 (h (.inl h0)).2
  · rw [if_pos h0]; exact fun e => ⟨(h e).1, (h e).2.mono hc⟩
theorem gd_svT {c : Nat} {d : GDisk} {t : ByteArray} (h : Bg c d) (hc : c ≤ 500) : Gd (c + 5) (svT d t) := by
  unfold svT
  have D : ∀ {k : Nat} {x : GDisk}, Bg k x → k ≤ 600 → x.Durable.length ≤ 1000000000 := fun hb hk => by have := hb.dl; omega
  refine gd_thn (c := c + 1) (by omega) (gd_op h (out_crt h) (vd_crt (D h (by omega)))) fun _ h2 => ?_
  refine gd_thn (c := c + 2) (by omega) (gd_op h2 (out_app h2) (vd_app (D h2 (by omega)))) fun _ h3 => ?_
  refine gd_thn (c := c + 3) (by omega) (gd_op h3 (out_syn h3) (vd_syn (D h3 (by omega)))) fun _ h4 => ?_
  refine gd_thn (c := c + 4) (by omega) (gd_op h4 (out_ren h4 (by rw [mfn_size, mf_size]; omega)) vd_ren) fun _ h5 => ?_
  exact gd_op h5 (out_sd h5 (by omega)) (vd_sd (D h5 (by omega)))
theorem gd_svF {c : Nat} {d : GDisk} {t : ByteArray} (h : Bg c d) (hc : c ≤ 490) : Gd (c + 6) (svF d t) := by
  unfold svF
  split
  · refine gd_thn (c := c + 1) (by omega) (gd_op h (out_rem h (by rw [mfn_size]; omega)) vd_rem) fun _ h2 => ?_
    exact gd_svT h2 (by omega)
  · have := gd_svT (t := t) h (by omega)
    exact fun e => ⟨(this e).1, (this e).2.mono (by omega)⟩
end Go.Proofs.YtomalcfghdaghaaGreatDoor

/- Plain laws of saving, 3: the law ManifestAgain. -/
set_option linter.unusedVariables false
set_option linter.unusedSimpArgs false
namespace Go.Proofs.YtomalcfghdaghaaGreatDoor
open Go Go.AM Go.Lib
theorem valid_left {d : GDisk} {L : Int} (h : valid d = true) (hL : -1 ≤ L) : valid ⟨d.Inodes, d.Durable, d.Pending, L⟩ = true := by
  obtain ⟨h1, h2, h3, h4, h5, h6⟩ := valid_il h
  exact valid_of h1 h2 hL h4 h5 h6
theorem bg_crF {c : Nat} {x : GDisk} (picks : List Int) (hv : valid x = true) (hb : Bg c x) (hc : c ≤ 900) : Bg c (crF x picks) := by
  have hdl := hb.dl
  have hD : x.Durable.length ≤ 1000000000 := by omega
  obtain ⟨f, t, hR⟩ := crDir_Rd picks hv hD
  have hlen : (crDir x picks).length ≤ c := by
    have h1 : (crDir x picks).length ≤ x.Durable.length + (x.Pending.take (crCount x picks)).length := aft_len _ _ _
    rw [List.length_take] at h1
    omega
  have hgD := crD_len (crDir x picks) (crDir x picks).length 0
  have hgI := crI_len x picks (crDir x picks) (crDir x picks).length 0
  rw [crF_eq picks hv]
  refine ⟨fun e he => ?_, (fun y hy => by cases hy), ?_, ?_⟩
  · obtain ⟨j, hj, rfl⟩ := get_mem dGDirEntry he
    rw [hgD] at hj
    rw [crD_at _ hj]
    have := isNm_size (hR.nms _ (getD_mem hj))
    simp only; omega
  · simp only [hgD, List.length_nil]; omega
  · simp only [hgI]; omega
theorem great24 (n : Nat) (m : GManifest) (hn : 1 ≤ n) : ∃ b, lookoutref24_Great n m = some b := by
  obtain ⟨k, rfl⟩ : ∃ k, n = k + 1 := ⟨n - 1, by omega⟩
  unfold lookoutref24_Great
  simp only
  cases decide ((m.Blocks.length : Int) > 12) <;> exact ⟨_, rfl⟩
theorem txt_seal {m : GManifest} (hc : chk m = 0) : (sealed (ofL (txt m))).size ≤ 1000000 := by
  have hlen := txt_len (chk_good hc)
  have hsz : (ofL (txt m)).size = (txt m).length := ofL_size _
  have hss := seal_size (ofL (txt m))
  omega
theorem load_kp (n : Nat) {y : GDisk} {m : GManifest} (h : Kp y mfB (sealed (ofL (txt m)))) (hc : chk m = 0) (hb : Bg 200 y) (picks : List Int) (hn : 210000 ≤ n) : manifest_Load n (crF y picks) = some (m, 0) := by
  obtain ⟨k, rfl⟩ : ∃ k, n = k + 1 := ⟨n - 1, by omega⟩
  have hD : y.Durable.length ≤ 1000000000 := by have := hb.dl; omega
  have er : disk_Read k (crF y picks) mfB = some (rdF (crF y picks) mfB) := read_d k 1000 _ mfB (crF_bd picks h.v hD) (by omega)
  unfold manifest_Load
  show (disk_Read k (crF y picks) mfB).bind _ = _
  rw [er, Option.bind_some, kp_crash h hD picks]
  simp only
  rw [show ((0 : Int) != 0) = false from rfl, cond_false, dec_sealed_p k m hc (by omega)]
  rfl
theorem again_tail (N : Nat) (x : GDisk) (b : GManifest) (p4 : List Int) (hv : valid x = true) (hb : Bg 100 x) (hp : p4.length ≤ 20) (hc : chk b = 0) (hN : 300000 ≤ N) :
    ((disk_Crash N x p4).bind fun r16 => ((manifest_Save N r16 b).bind fun r17 => ((disk_Crash N r17.1 p4).bind fun r18 => ((manifest_Load N r18).bind fun r19 => (bif (r17.2 == 0) then (bif (r19.2 == 0) then ((lookoutref24_Same N r19.1 b).bind fun r20 => (bif r20 then ((lookoutlaw24_awake N).bind fun r21 => (some r21)) else (some false))) else (some false)) else (some false)))))) = some true := by
  have aw := awake_eq N (by omega)
  have hD : x.Durable.length ≤ 1000000000 := by have := hb.dl; omega
  obtain ⟨v1, v2, v3⟩ := crF_valid p4 hv hD
  have hbc := bg_crF p4 hv hb (by omega)
  have hts := txt_seal hc
  obtain ⟨y, ey, sy, kp⟩ := svF_m (t := sealed (ofL (txt b))) ⟨v1, v2, hbc⟩ (by omega) hts
  have hw : Lw (crF x p4) := ⟨by rw [v2]; omega, by rw [v2]; omega⟩
  rw [crash_d N 200 x p4 (hb.bd (by omega)) (by omega) (by omega), Option.bind_some, save_eq N (crF x p4) b (hbc.mono (by omega)) hw (by omega), Option.bind_some, if_neg (show ¬ chk b ≠ 0 from fun e => e hc), if_neg (by rw [v1]; decide), ey]
  simp only
  rw [crash_d N 200 y p4 (sy.b.bd (by omega)) (by omega) (by omega), Option.bind_some, load_kp N kp hc (sy.b.mono (by omega)) p4 (by omega), Option.bind_some]
  simp only
  rw [show ((0 : Int) == 0) = true from rfl, cond_true, cond_true, same_eq N b (good_len hc) (by omega), Option.bind_some, cond_true, aw]
  rfl
theorem again_law (x0 : GDisk) (x1 x2 : GManifest) (x3 : Int) (x4 : List Int) (h3 : 0 ≤ x3 ∧ x3 < 256) : ∃ n, lookoutlaw24_ManifestAgain n x0 x1 x2 x3 x4 = some true := by
  refine ⟨300000 + 1, ?_⟩
  generalize hN : 300000 = N
  have aw := awake_eq N (by omega)
  obtain ⟨g1, e1⟩ := great24 N x1 (by omega)
  obtain ⟨g2, e2⟩ := great24 N x2 (by omega)
  obtain ⟨g3, e3, hg3⟩ := great_all N x0 (by omega)
  unfold lookoutlaw24_ManifestAgain
  simp only
  rw [e1, Option.bind_some]
  cases g1 with
  | true => rw [cond_true, aw]; rfl
  | false =>
    rw [cond_false, e2, Option.bind_some]
    cases g2 with
    | true => rw [cond_true, aw]; rfl
    | false =>
      rw [cond_false, e3, Option.bind_some]
      cases g3 with
      | true => rw [cond_true, aw]; rfl
      | false =>
        obtain ⟨b1, b2, b3, b4⟩ := hg3 rfl
        rw [cond_false]
        by_cases hp : (x4.length : Int) > 20
        · rw [bz hp, aw]; rfl
        · rw [bzn hp, check_eq N 200 x0 b1 (by omega), Option.bind_some]
          cases hv : valid x0 with
          | false => rw [cond_false, show ((1 : Int) != 0) = true from rfl, cond_true, aw]; rfl
          | true =>
            rw [cond_true, show ((0 : Int) != 0) = false from rfl, cond_false, mcheck_eq N x1 (by omega), Option.bind_some]
            by_cases c1 : chk x1 = 0
            · rw [bff (show (chk x1 != 0) = false by rw [c1]; rfl), mcheck_eq N x2 (by omega), Option.bind_some]
              by_cases c2 : chk x2 = 0
              · rw [bff (show (chk x2 != 0) = false by rw [c2]; rfl), wr x3 (by omega) (by omega)]
                have hm1 : 0 ≤ Int.tmod x3 8 := Int.tmod_nonneg _ h3.1
                have hm2 : Int.tmod x3 8 < 8 := Int.tmod_lt_of_pos _ (by omega)
                have hv1 : valid ⟨x0.Inodes, x0.Durable, x0.Pending, Int.tmod x3 8⟩ = true := valid_left hv (by omega)
                have hb1 : Bg 80 ⟨x0.Inodes, x0.Durable, x0.Pending, Int.tmod x3 8⟩ := ⟨b1.dn, b1.pn, by simp only; omega, by simp only; omega⟩
                have hw1 : Lw ⟨x0.Inodes, x0.Durable, x0.Pending, Int.tmod x3 8⟩ := ⟨by simp only; omega, by simp only; omega⟩
                rw [save_eq N _ x1 (hb1.mono (by omega)) hw1 (by omega), Option.bind_some, if_neg (show ¬ chk x1 ≠ 0 from fun e => e c1), if_neg (by rw [hv1]; decide)]
                have hgd := gd_svF (t := sealed (ofL (txt x1))) hb1 (by omega)
                generalize svF ⟨x0.Inodes, x0.Durable, x0.Pending, Int.tmod x3 8⟩ (sealed (ofL (txt x1))) = r at hgd
                by_cases h0 : r.2 = 0
                · obtain ⟨w1, w2⟩ := hgd (.inl h0)
                  rw [bff (show (r.2 != 0) = false by rw [h0]; rfl)]
                  exact again_tail N r.1 x2 x4 w1 (w2.mono (by omega)) (by omega) c2 (by omega)
                · rw [btt (show (r.2 != 0) = true by rw [bne_iff_ne]; exact h0)]
                  by_cases h19 : r.2 = 19
                  · obtain ⟨w1, w2⟩ := hgd (.inr h19)
                    rw [bff (show (r.2 != 19) = false by rw [h19]; rfl)]
                    exact again_tail N r.1 x2 x4 w1 (w2.mono (by omega)) (by omega) c2 (by omega)
                  · rw [btt (show (r.2 != 19) = true by rw [bne_iff_ne]; exact h19), aw]; rfl
              · rw [btt (show (chk x2 != 0) = true by rw [bne_iff_ne]; exact c2), aw]; rfl
            · rw [btt (show (chk x1 != 0) = true by rw [bne_iff_ne]; exact c1), aw]; rfl
end Go.Proofs.YtomalcfghdaghaaGreatDoor
