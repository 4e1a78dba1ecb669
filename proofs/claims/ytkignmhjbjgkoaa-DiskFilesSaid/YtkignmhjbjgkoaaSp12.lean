/- Plain laws, 12: losing power twice; what is read after a loss; DiskValid, DiskReplaces. -/
import Derived.Test.YtkignmhjbjgkoaaSp11
set_option linter.unusedVariables false
set_option linter.unusedSimpArgs false
namespace Go.Proofs.Ytkignmhjbjgkoaa
open Go Go.AM

theorem ext_getD {α : Type} (d : α) {l m : List α} (hl : l.length = m.length) (h : ∀ j, j < l.length → l.getD j d = m.getD j d) : l = m := by
  refine List.ext_getElem hl fun j h1 h2 => ?_
  have := h j h1
  simpa [List.getD, List.getElem?_eq_getElem h1, List.getElem?_eq_getElem h2] using this
theorem crDir_nil {d : GDisk} (picks : List Int) (h : d.Pending = []) : crDir d picks = d.Durable := by simp only [crDir, h, List.take_nil, aft]
theorem cur_nil {d : GDisk} (h : d.Pending = []) : cur d = (d.Durable, true) := by simp only [cur, h, aft]
theorem crF_eq {d : GDisk} (picks : List Int) (hv : valid d = true) : crF d picks = ⟨crI d picks (crDir d picks) 0 (crDir d picks).length, crD (crDir d picks) 0 (crDir d picks).length, [], -1⟩ := by simp only [crF, hv, cond_true]
theorem crD_at (l : Dir) {j : Nat} (hj : j < l.length) : (crD l 0 l.length).getD j dGDirEntry = ⟨(l.getD j dGDirEntry).Name, (j : Int)⟩ := by rw [crD_get l _ 0 j hj, Nat.zero_add]
theorem crI_at (d : GDisk) (picks : List Int) (l : Dir) {j : Nat} (hj : j < l.length) : (crI d picks l 0 l.length).getD j dGInode = ⟨ByteArray.extract (d.Inodes.getD (l.getD j dGDirEntry).Inode.toNat dGInode).Data 0 (kept d picks l j).toNat, kept d picks l j⟩ := by rw [crI_get d picks l _ 0 j hj, Nat.zero_add]
theorem crD_crD (l : Dir) : crD (crD l 0 l.length) 0 (crD l 0 l.length).length = crD l 0 l.length := by
  have h := crD_len l l.length 0
  refine ext_getD dGDirEntry (by rw [crD_len]) fun j hj => ?_
  rw [crD_len, h] at hj
  rw [crD_at _ (by rw [h]; exact hj), crD_at l hj]
theorem kept_ok {d : GDisk} (picks : List Int) {l : Dir} {j : Nat} (hO : d.Inodes.all okI = true) (hj : j < l.length) (h1 : 0 ≤ (l.getD j dGDirEntry).Inode) (h2 : (l.getD j dGDirEntry).Inode < d.Inodes.length) :
    (d.Inodes.getD (l.getD j dGDirEntry).Inode.toNat dGInode).Synced ≤ kept d picks l j ∧ kept d picks l j ≤ ((d.Inodes.getD (l.getD j dGDirEntry).Inode.toNat dGInode).Data.size : Int) ∧ 0 ≤ kept d picks l j := by
  have hok := inode_ok hO h1 h2
  obtain ⟨o1, o2, o3⟩ := okI_spec hok
  obtain ⟨q1, q2⟩ := kept_in (picks := picks) hok
  exact ⟨q1, q2, by omega⟩

theorem kept_def (d : GDisk) (picks : List Int) (l : Dir) (i : Nat) : kept d picks l i = (d.Inodes.getD (l.getD i dGDirEntry).Inode.toNat dGInode).Synced + pk picks (i + 1) (((d.Inodes.getD (l.getD i dGDirEntry).Inode.toNat dGInode).Data.size : Int) - (d.Inodes.getD (l.getD i dGDirEntry).Inode.toNat dGInode).Synced + 1) := rfl
theorem crF_crF {d : GDisk} (picks more : List Int) (hv : valid d = true) (hD : d.Durable.length ≤ 1000000000) : crF (crF d picks) more = crF d picks := by
  obtain ⟨v1, v2, v3⟩ := crF_valid picks hv hD
  obtain ⟨f, t, hR⟩ := crDir_Rd picks hv hD
  obtain ⟨i1, i2, i3, i4, i5, i6⟩ := valid_il hv
  have hgD := crD_len (crDir d picks) (crDir d picks).length 0
  have hgI := crI_len d picks (crDir d picks) (crDir d picks).length 0
  rw [crF_eq more v1, crDir_nil more v3]
  rw [crF_eq picks hv]
  simp only [crD_crD]
  have : crI ⟨crI d picks (crDir d picks) 0 (crDir d picks).length, crD (crDir d picks) 0 (crDir d picks).length, [], -1⟩ more (crD (crDir d picks) 0 (crDir d picks).length) 0 (crD (crDir d picks) 0 (crDir d picks).length).length = crI d picks (crDir d picks) 0 (crDir d picks).length := by
    refine ext_getD dGInode (by rw [crI_len, hgI, hgD]) fun j hj => ?_
    rw [crI_len, hgD] at hj
    obtain ⟨r1, r2⟩ := hR.rng _ (getD_mem hj)
    obtain ⟨k1, k2, k3⟩ := kept_ok picks i4 hj r1 r2
    rw [crI_at _ _ _ (by rw [hgD]; exact hj)]
    have hsz := extract_size (d.Inodes.getD ((crDir d picks).getD j dGDirEntry).Inode.toNat dGInode).Data (kept d picks (crDir d picks) j).toNat (by omega)
    have hk : kept ⟨crI d picks (crDir d picks) 0 (crDir d picks).length, crD (crDir d picks) 0 (crDir d picks).length, [], -1⟩ more (crD (crDir d picks) 0 (crDir d picks).length) j = kept d picks (crDir d picks) j := by
      have hp := pk_in more (j + 1) 1 (by omega)
      have e : (((kept d picks (crDir d picks) j).toNat : Nat) : Int) - kept d picks (crDir d picks) j + 1 = 1 := by omega
      rw [kept_def]
      simp only [crD_at _ hj, toNat_c, crI_at d picks _ hj]
      rw [hsz, e]; omega
    rw [hk]
    simp only [crD_at _ hj, toNat_c, crI_at d picks _ hj]
    rw [extract_all _ _ (by rw [hsz]; omega)]
  rw [this]

theorem crF_bd {d : GDisk} (picks : List Int) (hv : valid d = true) (hD : d.Durable.length ≤ 1000000000) : Bd 1000 (crF d picks) := by
  obtain ⟨l1, l2, l3⟩ := crF_len (d := d) picks hD
  obtain ⟨v1, v2, v3⟩ := crF_valid picks hv hD
  obtain ⟨f, t, hR⟩ := cur_rd v1 (by omega)
  rw [cur_nil v3] at hR
  exact ⟨fun e he => by have := isNm_size (hR.nms e he); omega, fun x hx => by rw [v3] at hx; simp at hx, l2, by omega, l1, by omega⟩

theorem diskValid_law (d : GDisk) (a : Glookoutlaw22_Act) (picks more : List Int) (hw : wfGDisk d) : ∃ n, lookoutlaw22_DiskValid n d a picks more = some true := by
  refine ⟨10000, ?_⟩
  obtain ⟨b, g1, g2⟩ := great_eq 9999 d (by omega) (by omega)
  obtain ⟨c, q1, q2⟩ := great_act 9999 a (by omega)
  show (lookoutref22_Great 9999 d).bind _ = _
  rw [g1]
  simp only [Option.bind_some, awake_eq]
  cases b with
  | true => rfl
  | false =>
    obtain ⟨hb, h1, h2, h3⟩ := g2 rfl
    simp only [cond_false, q1, Option.bind_some]
    cases c with
    | true => rfl
    | false =>
      obtain ⟨s1, s2, s3⟩ := q2 rfl
      simp only [cond_false]
      by_cases c1 : (picks.length : Int) > 60
      · simp only [c1, decide_true, cond_true]
      · by_cases c2 : (more.length : Int) > 60
        · simp only [c1, c2, decide_true, decide_false, cond_true, cond_false]
        · have hbg := bg_of hb h1 h2 h3
          have hout := do_out a hbg (by omega) s1 s2
          obtain ⟨dv1, dv2⟩ := do_valid (d := d) a (by omega)
          simp only [c1, c2, decide_false, cond_false, do_f 9999 200 d a hb (lw_of hw) (by omega) (by omega), check_eq 9999 200 d hb (by omega), Option.bind_some, crash_d 9999 200 d picks hb (by omega) (by omega)]
          obtain ⟨r, hr⟩ : ∃ r, doF d a = r := ⟨_, rfl⟩
          rw [hr] at hout dv1 dv2
          rw [hr]
          cases hv : valid d with
          | false =>
            have e1 := dv2.2 hv
            simp only [e1]; rfl
          | true =>
            obtain ⟨v1, v2, v3⟩ := crF_valid picks hv (by omega)
            have hcb := crF_bd picks hv (by omega)
            obtain ⟨l1, l2, l3⟩ := crF_len (d := d) picks (by omega)
            have hr1 : (r.2 == 1) = false := by
              have : r.2 ≠ 1 := fun h => by have := dv2.1 h; rw [hv] at this; cases this
              simpa using this
            simp only [cond_true, check_eq 9999 1000 _ hcb (by omega), v1, v2, crash_d 9999 1000 _ more hcb (by omega) (by omega), crF_crF picks more hv (by omega), same_refl 9999 (crF d picks) (by omega) (by omega) (by omega) (by omega), Option.bind_some, hr1, beq_self_eq_true, Bool.not_true, cond_false, show (false == true) = false by rfl]
            by_cases e0 : r.2 = 0
            · obtain ⟨_, _, q3⟩ := hout.ok e0
              have e : (r.2 == 0) = true := by simp [e0]
              simp only [e, cond_true, check_eq 9999 200 r.1 (q3.bd (by omega)) (by omega), (dv1 (Or.inl e0)).2, Option.bind_some]; rfl
            · have e : (r.2 == 0) = false := by simpa using e0
              by_cases e1 : r.2 = 19
              · obtain ⟨_, q3⟩ := hout.lost e1
                have e' : (r.2 == 19) = true := by simp [e1]
                simp only [e, e', q3, cond_true, cond_false, check_eq 9999 200 d hb (by omega), hv, Option.bind_some]; rfl
              · have e' : (r.2 == 19) = false := by simpa using e1
                simp only [e, e', cond_false]

theorem rd_some {d : GDisk} {name : ByteArray} {i : Int} (hv : valid d = true) (hl : lkE name (cur d).1 = some i) : rdF d name = ((d.Inodes.getD i.toNat dGInode).Data, 0) := by
  have : fnd d name = (i, 0) := by simp only [fnd, hv, hl, cond_true]
  simp only [rdF, this]; rfl
/-- What is read of an entry that a loss of power leaves. -/
theorem read_crash {d : GDisk} (picks : List Int) (hv : valid d = true) (hD : d.Durable.length ≤ 1000000000) {e : GDirEntry} (he : e ∈ crDir d picks) :
    ∃ k : Int, (d.Inodes.getD e.Inode.toNat dGInode).Synced ≤ k ∧ k ≤ ((d.Inodes.getD e.Inode.toNat dGInode).Data.size : Int) ∧ 0 ≤ k ∧ rdF (crF d picks) e.Name = (ByteArray.extract (d.Inodes.getD e.Inode.toNat dGInode).Data 0 k.toNat, 0) := by
  obtain ⟨v1, v2, v3⟩ := crF_valid picks hv hD
  obtain ⟨l1, l2, l3⟩ := crF_len (d := d) picks hD
  obtain ⟨f, t, hR⟩ := crDir_Rd picks hv hD
  obtain ⟨f', t', hR'⟩ := cur_rd v1 (by omega)
  have hgD := crD_len (crDir d picks) (crDir d picks).length 0
  obtain ⟨j, hj, rfl⟩ := get_mem dGDirEntry he
  have hdu : (crF d picks).Durable = crD (crDir d picks) 0 (crDir d picks).length := by rw [crF_eq picks hv]
  have hm : (⟨((crDir d picks).getD j dGDirEntry).Name, (j : Int)⟩ : GDirEntry) ∈ (cur (crF d picks)).1 := by
    rw [cur_nil v3, hdu, ← crD_at _ hj]; exact getD_mem (by rw [hgD]; exact hj)
  have hl := (lkE_some hR'.srt).2 hm
  obtain ⟨r1, r2⟩ := hR.rng _ (getD_mem hj)
  obtain ⟨k1, k2, k3⟩ := kept_ok picks (valid_il hv).2.2.2.1 hj r1 r2
  refine ⟨kept d picks (crDir d picks) j, k1, k2, k3, ?_⟩
  have hin : (crF d picks).Inodes = crI d picks (crDir d picks) 0 (crDir d picks).length := by rw [crF_eq picks hv]
  rw [rd_some v1 hl, toNat_c, hin, crI_at d picks _ hj]

theorem out_bg {c : Nat} {d : GDisk} {r : GDisk × Int} (h : Out c d r) (hd : Bg c d) : Bg (c + 1) r.1 := by
  by_cases h0 : r.2 = 0
  · exact (h.ok h0).2.2
  · by_cases h1 : r.2 = 19
    · rw [(h.lost h1).2]; exact hd.mono (by omega)
    · rw [h.err h0 h1]; exact ⟨fun e he => by simp at he, fun e he => by simp at he, by simp, by simp⟩
theorem out_lw {c : Nat} {d : GDisk} {r : GDisk × Int} (h : Out c d r) (hd : Lw d) : Lw r.1 := by
  have w1 := hd.lo; have w2 := hd.hi
  by_cases h0 : r.2 = 0
  · have := (h.ok h0).2.1; split at this <;> exact ⟨by omega, by omega⟩
  · by_cases h1 : r.2 = 19
    · rw [(h.lost h1).2]; exact hd
    · rw [h.err h0 h1]; exact ⟨by simp, by simp⟩
theorem prefix_eq (n : Nat) (s : ByteArray) (k : Nat) (hk : k ≤ s.size) (hn : 2 ≤ n) : strings_HasPrefix n s (ByteArray.extract s 0 k) = some true := by
  obtain ⟨m, rfl⟩ : ∃ m, n = m + 2 := ⟨n - 2, by omega⟩
  have hsz := extract_size s k hk
  simp only [strings_HasPrefix, stringslite_HasPrefix, hsz, show ((s.size : Int) ≥ (k : Int)) by omega, show (0 : Int) ≤ 0 by omega, show (0 : Int) ≤ (k : Int) by omega, show ((k : Int) ≤ (s.size : Int)) by omega, decide_true, Bool.and_true, cond_true, Option.bind_some, sEq_eq]
theorem getD_set_ne {l : List GInode} {i j : Nat} {x : GInode} (h : i ≠ j) : (l.set i x).getD j dGInode = l.getD j dGInode := by
  simp [List.getD, List.getElem?_set, h]
theorem getD_set_eq {l : List GInode} {i : Nat} {x : GInode} (h : i < l.length) : (l.set i x).getD i dGInode = x := by
  simp [List.getD, List.getElem?_set, h]
theorem doF_syn (d : GDisk) (name : ByteArray) : doF d ⟨3, name, bE, bE, 0⟩ = synF d name := rfl
theorem doF_ren (d : GDisk) (name to : ByteArray) : doF d ⟨5, name, to, bE, 0⟩ = renF d name to := rfl
theorem syn_ok {d : GDisk} {name : ByteArray} (h : (synF d name).2 = 0) : (fnd d name).2 = 0 ∧ ∃ L, (synF d name).1 = ⟨d.Inodes.set (ino d name) ⟨(file d name).Data, ((file d name).Data.size : Int)⟩, d.Durable, d.Pending, L⟩ := by
  unfold synF at h ⊢
  by_cases c : (fnd d name).2 = 0
  · rw [if_neg (by simp [c])] at h ⊢
    refine ⟨c, ?_⟩
    unfold prf at h ⊢
    by_cases c2 : d.Left = 0
    · rw [if_pos c2] at h; cases h
    · rw [if_neg c2]; exact ⟨_, rfl⟩
  · rw [if_pos c] at h; exact absurd h c
theorem ren_ok {d : GDisk} {name to : ByteArray} (h : (renF d name to).2 = 0) : (fnd d name).2 = 0 ∧ to ≠ name ∧ isNm to = true ∧ ∃ L, (renF d name to).1 = ⟨d.Inodes, d.Durable, d.Pending ++ [⟨2, name, to, 0⟩], L⟩ := by
  unfold renF at h ⊢
  by_cases c : (fnd d name).2 = 0
  · rw [if_neg (by simp [c])] at h ⊢
    by_cases c1 : isNm to = false
    · rw [if_pos c1] at h; cases h
    · rw [if_neg c1] at h ⊢
      by_cases c2 : to = name
      · rw [if_pos c2] at h; cases h
      · rw [if_neg c2] at h ⊢
        by_cases c3 : d.Pending.length ≥ 1000
        · rw [if_pos c3] at h; cases h
        · rw [if_neg c3] at h ⊢
          refine ⟨c, c2, by simpa using c1, ?_⟩
          unfold prf at h ⊢
          by_cases c4 : d.Left = 0
          · rw [if_pos c4] at h; cases h
          · rw [if_neg c4]; exact ⟨_, rfl⟩
  · rw [if_pos c] at h; exact absurd h c
theorem rdF_fnd {d : GDisk} {name : ByteArray} (h : (rdF d name).2 = 0) : (fnd d name).2 = 0 := by
  unfold rdF at h
  cases c : (fnd d name).2 == 0 with
  | true => simpa using c
  | false => rw [c] at h; exact h

/-- The heart of DiskReplaces: what is read under the new name after the loss. -/
theorem replaces {d : GDisk} {name to : ByteArray} (picks : List Int) (hw : Lw d) (hb : Bg 80 d) (hn1 : name.size ≤ 100) (hn2 : to.size ≤ 100) (hP : d.Pending = []) (e7 : (rdF d to).2 = 0) (e8 : (synF d name).2 = 0) (e10 : (renF (synF d name).1 name to).2 = 0) :
    (rdF (crF (renF (synF d name).1 name to).1 picks) to).2 = 0 ∧ ((rdF (crF (renF (synF d name).1 name to).1 picks) to).1 = (rdF (synF d name).1 name).1 ∨ ∃ k, k ≤ (rdF d to).1.size ∧ (rdF (crF (renF (synF d name).1 name to).1 picks) to).1 = ByteArray.extract (rdF d to).1 0 k) := by
  have hD := hb.dl
  obtain ⟨f1, L, hs⟩ := syn_ok e8
  obtain ⟨f2, hne, hnm, L2, hr⟩ := ren_ok e10
  have v1 := ((do_valid (d := d) ⟨3, name, bE, bE, 0⟩ (by omega)).1 (Or.inl e8)).2
  rw [doF_syn] at v1
  have hout := do_out (c := 80) (d := d) ⟨3, name, bE, bE, 0⟩ hb (by omega) hn1 (show bE.size ≤ 100 from Nat.zero_le 100)
  rw [doF_syn] at hout
  have hb1 := out_bg hout hb
  have hD1 := hb1.dl
  have v2 := ((do_valid (d := (synF d name).1) ⟨5, name, to, bE, 0⟩ (by omega)).1 (Or.inl e10)).2
  rw [doF_ren] at v2
  obtain ⟨hv, hl1⟩ := fnd_lk f1
  obtain ⟨_, hl0⟩ := fnd_lk (rdF_fnd e7)
  rw [cur_nil hP] at hl1 hl0
  obtain ⟨f, t, hR⟩ := cur_rd hv (by omega)
  rw [cur_nil hP] at hR
  obtain ⟨i, hi⟩ : ∃ i, (fnd d name).1 = i := ⟨_, rfl⟩
  obtain ⟨v, hvv⟩ : ∃ v, (fnd d to).1 = v := ⟨_, rfl⟩
  rw [hi] at hl1; rw [hvv] at hl0
  have m1 := (lkE_some hR.srt).1 hl1
  have m0 := (lkE_some hR.srt).1 hl0
  obtain ⟨r1, r2⟩ := hR.rng _ m1
  obtain ⟨t1, t2⟩ := hR.rng _ m0
  simp only at r1 r2 t1 t2
  have hiv : v ≠ i := fun h => by
    have := hR.ind _ m0 _ m1 h
    injection this with h1 _
    exact hne h1
  have hino : ino d name = i.toNat := by unfold ino; rw [hi]
  have hfile : file d name = d.Inodes.getD i.toNat dGInode := by unfold file; rw [hino]
  have h0 : rdF d to = ((d.Inodes.getD v.toNat dGInode).Data, 0) := rd_some hv (by rw [cur_nil hP]; exact hl0)
  rw [hino, hfile] at hs
  obtain ⟨s, hss⟩ : ∃ s, (synF d name).1 = s := ⟨_, rfl⟩
  rw [hss] at hs hr v1 v2 hD1 ⊢
  have h9 : rdF s name = ((d.Inodes.getD i.toNat dGInode).Data, 0) := by
    have := rd_some (d := s) (name := name) (i := i) v1 (by rw [cur_nil (by rw [hs]; exact hP), hs]; exact hl1)
    rw [this, hs]; simp only [getD_set_eq (show i.toNat < d.Inodes.length by omega)]
  obtain ⟨q, hq⟩ : ∃ q, (renF s name to).1 = q := ⟨_, rfl⟩
  rw [hq] at hr v2 ⊢
  have hqI : q.Inodes = d.Inodes.set i.toNat ⟨(d.Inodes.getD i.toNat dGInode).Data, ((d.Inodes.getD i.toNat dGInode).Data.size : Int)⟩ := by rw [hr, hs]
  have hqD : q.Durable = d.Durable := by rw [hr, hs]
  have hqP : q.Pending = [⟨2, name, to, 0⟩] := by rw [hr, hs]; simp only [hP, List.nil_append]
  have hqN : q.Inodes.length = d.Inodes.length := by rw [hqI, List.length_set]
  obtain ⟨c1, c2⟩ := count_in q picks
  rw [hqP] at c2
  have c2 : crCount q picks ≤ 1 := c2
  by_cases hc : crCount q picks = 0
  · have hdir : crDir q picks = d.Durable := by simp only [crDir, hc, List.take_zero, aft, hqD]
    obtain ⟨k, k1, k2, k3, k4⟩ := read_crash picks v2 (by rw [hqD]; omega) (e := ⟨to, v⟩) (by rw [hdir]; exact m0)
    simp only [hqI, getD_set_ne (show i.toNat ≠ v.toNat by omega)] at k1 k2 k4
    rw [k4, h0]
    exact ⟨rfl, Or.inr ⟨k.toNat, by simp only; omega, rfl⟩⟩
  · have hc1 : crCount q picks = 1 := by omega
    have hdir : crDir q picks = wi ⟨to, i⟩ (wo (wo d.Durable name) to) := by
      simp only [crDir, hc1, hqP, hqD, List.take_succ_cons, List.take_zero, aft, ap, hl1, show ((2 : Int) == 1) = false by rfl, show ((2 : Int) == 2) = true by rfl, show ((0 : Int) != 0) = false by rfl, cond_true, cond_false]
      cases (isNm to && !decide (to = name)) <;> rfl
    obtain ⟨k, k1, k2, k3, k4⟩ := read_crash picks v2 (by rw [hqD]; omega) (e := ⟨to, i⟩) (by rw [hdir]; exact mem_wi.2 (Or.inl rfl))
    simp only [hqI, getD_set_eq (show i.toNat < d.Inodes.length by omega)] at k1 k2 k4
    rw [k4, h9]
    exact ⟨rfl, Or.inl (extract_all _ _ (by omega))⟩

theorem diskReplaces_law (d : GDisk) (name to : ByteArray) (picks : List Int) (hw : wfGDisk d) : ∃ n, lookoutlaw22_DiskReplaces n d name to picks = some true := by
  refine ⟨10000, ?_⟩
  obtain ⟨b, g1, g2⟩ := great_eq 9999 d (by omega) (by omega)
  show (lookoutref22_Great 9999 d).bind _ = _
  rw [g1]
  simp only [Option.bind_some, awake_eq]
  cases b with
  | true => rfl
  | false =>
    obtain ⟨hb, h1, h2, h3⟩ := g2 rfl
    simp only [cond_false]
    by_cases c1 : (name.size : Int) > 100
    · simp only [c1, decide_true, cond_true]
    · by_cases c2 : (to.size : Int) > 100
      · simp only [c1, c2, decide_true, decide_false, cond_true, cond_false]
      · by_cases c3 : (picks.length : Int) > 60
        · simp only [c1, c2, c3, decide_true, decide_false, cond_true, cond_false]
        · by_cases c4 : (d.Pending.length : Int) > 0
          · simp only [c1, c2, c3, c4, decide_true, decide_false, cond_true, cond_false]
          · have hP : d.Pending = [] := List.length_eq_zero_iff.1 (by omega)
            have hbg := bg_of hb h1 h2 h3
            have hlw := lw_of hw
            have hout := do_out (c := 80) (d := d) ⟨3, name, bE, bE, 0⟩ hbg (by omega) (show name.size ≤ 100 by omega) (show bE.size ≤ 100 from Nat.zero_le 100)
            rw [doF_syn] at hout
            have hb1 := out_bg hout hbg
            have hw1 := out_lw hout hlw
            have hout2 := do_out (c := 81) (d := (synF d name).1) ⟨5, name, to, bE, 0⟩ hb1 (by omega) (show name.size ≤ 100 by omega) (show to.size ≤ 100 by omega)
            rw [doF_ren] at hout2
            have hb2 := out_bg hout2 hb1
            simp only [c1, c2, c3, c4, decide_false, cond_false, read_d 9999 200 d to hb (by omega), sync_f 9999 200 d name hb hlw (by omega), read_d 9999 200 (synF d name).1 name (hb1.bd (by omega)) (by omega), rename_f 9999 200 (synF d name).1 name to (hb1.bd (by omega)) hw1 (by omega), Option.bind_some]
            by_cases e7 : (rdF d to).2 = 0
            · by_cases e8 : (synF d name).2 = 0
              · by_cases e9 : (rdF (synF d name).1 name).2 = 0
                · by_cases e10 : (renF (synF d name).1 name to).2 = 0
                  · obtain ⟨p1, p2⟩ := replaces picks hlw hbg (by omega) (by omega) hP e7 e8 e10
                    have v2 := ((do_valid (d := (synF d name).1) ⟨5, name, to, bE, 0⟩ (by have := hb1.dl; omega)).1 (Or.inl e10)).2
                    rw [doF_ren] at v2
                    have hcb := crF_bd picks v2 (by have := hb2.dl; omega)
                    simp only [e7, e8, e9, e10, show ((0 : Int) != 0) = false by rfl, show ((0 : Int) == 0) = true by rfl, cond_false, cond_true, crash_d 9999 200 _ picks (hb2.bd (by omega)) (by omega) (by omega), read_d 9999 1000 _ to hcb (by omega), Option.bind_some, p1, sEq_eq]
                    rcases p2 with p2 | ⟨k, k1, k2⟩
                    · rw [decide_eq_true p2]; rfl
                    · rw [k2, prefix_eq 9999 _ k k1 (by omega)]
                      simp only [Option.bind_some, cond_true]
                      cases decide (ByteArray.extract (rdF d to).1 0 k = (rdF (synF d name).1 name).1) <;> rfl
                  · have : ((renF (synF d name).1 name to).2 != 0) = true := by simpa [bne] using e10
                    simp only [e7, e8, e9, this, show ((0 : Int) != 0) = false by rfl, cond_false, cond_true]
                · have : ((rdF (synF d name).1 name).2 != 0) = true := by simpa [bne] using e9
                  simp only [e7, e8, this, show ((0 : Int) != 0) = false by rfl, cond_false, cond_true]
              · have : ((synF d name).2 != 0) = true := by simpa [bne] using e8
                simp only [e7, this, show ((0 : Int) != 0) = false by rfl, cond_false, cond_true]
            · have : ((rdF d to).2 != 0) = true := by simpa [bne] using e7
              simp only [this, cond_true]
end Go.Proofs.Ytkignmhjbjgkoaa
