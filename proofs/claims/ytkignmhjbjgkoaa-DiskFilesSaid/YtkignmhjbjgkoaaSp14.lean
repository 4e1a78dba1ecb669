/- Plain laws, 14: what the operations do to the files; DiskDurable, DiskFiles. -/
import Derived.Test.YtkignmhjbjgkoaaSp13
set_option linter.unusedVariables false
set_option linter.unusedSimpArgs false
namespace Go.Proofs.Ytkignmhjbjgkoaa
open Go Go.AM

/-! ### Contents, operation by operation -/
theorem con_chg {d : GDisk} {name : ByteArray} {y : GInode} {L : Int} (hD : d.Durable.length ≤ 1000000000) (h : (fnd d name).2 = 0) (hx : valid ⟨d.Inodes.set (ino d name) y, d.Durable, d.Pending, L⟩ = true) (q : ByteArray) :
    con ⟨d.Inodes.set (ino d name) y, d.Durable, d.Pending, L⟩ q = if q = name then some y.Data else con d q := by
  obtain ⟨hv, hl⟩ := fnd_lk h
  obtain ⟨f, t, hR⟩ := cur_rd hv hD
  obtain ⟨_, o2, o3, o4, _, _⟩ := file_ok hD h
  have hcur : cur ⟨d.Inodes.set (ino d name) y, d.Durable, d.Pending, L⟩ = cur d := by unfold cur; simp only [List.length_set]
  by_cases hq : q = name
  · subst hq
    rw [if_pos rfl, con_some hx (by rw [hcur]; exact hl)]
    show some ((d.Inodes.set (ino d q) y).getD (ino d q) dGInode).Data = _
    rw [getD_set_eq o2]
  · rw [if_neg hq]
    cases hlq : lkE q (cur d).1 with
    | none => rw [con_none hv hlq, con_none hx (by rw [hcur]; exact hlq)]
    | some i =>
      rw [con_some hv hlq, con_some hx (by rw [hcur]; exact hlq)]
      have m1 := (lkE_some hR.srt).1 hl
      have m2 := (lkE_some hR.srt).1 hlq
      have hne : i ≠ (fnd d name).1 := fun e => by
        have := hR.ind _ m2 _ m1 e
        injection this with h1 _
        exact hq h1
      have r2 := (hR.rng _ m2).1
      simp only at r2
      rw [getD_set_ne (show ino d name ≠ i.toNat by unfold ino; omega)]
theorem con_pend {d : GDisk} {x : GDirOp} {L : Int} (hv : valid d = true) (hx : valid ⟨d.Inodes, d.Durable, d.Pending ++ [x], L⟩ = true) (q : ByteArray) :
    con ⟨d.Inodes, d.Durable, d.Pending ++ [x], L⟩ q = (lkE q (ap (d.Inodes.length : Int) (cur d).1 x).1).map (fun i => (d.Inodes.getD i.toNat dGInode).Data) := by
  have i6 := (valid_il hv).2.2.2.2.2
  have hcur : cur ⟨d.Inodes, d.Durable, d.Pending ++ [x], L⟩ = ap (d.Inodes.length : Int) (cur d).1 x := aft_app i6
  simp only [con, hx, cond_true, hcur]
theorem con_map {d : GDisk} (hv : valid d = true) (q : ByteArray) : con d q = (lkE q (cur d).1).map (fun i => (d.Inodes.getD i.toNat dGInode).Data) := by simp only [con, hv, cond_true]
theorem con_rem {d : GDisk} {name : ByteArray} {L : Int} (hD : d.Durable.length ≤ 1000000000) (h : (fnd d name).2 = 0) (hx : valid ⟨d.Inodes, d.Durable, d.Pending ++ [⟨3, name, bE, 0⟩], L⟩ = true) (q : ByteArray) :
    con ⟨d.Inodes, d.Durable, d.Pending ++ [⟨3, name, bE, 0⟩], L⟩ q = if q = name then none else con d q := by
  obtain ⟨hv, hl⟩ := fnd_lk h
  obtain ⟨f, t, hR⟩ := cur_rd hv hD
  have hap : (ap (d.Inodes.length : Int) (cur d).1 ⟨3, name, bE, 0⟩).1 = wo (cur d).1 name := by
    simp only [ap, hl, show ((3 : Int) == 1) = false by rfl, show ((3 : Int) == 2) = false by rfl, show ((0 : Int) != 0) = false by rfl, cond_false]
  rw [con_pend hv hx, hap, lkE_wo hR.srt]
  by_cases hq : q = name
  · simp [hq]
  · simp [hq, con_map hv]
theorem con_ren {d : GDisk} {name to : ByteArray} {L : Int} (hD : d.Durable.length ≤ 1000000000) (h : (fnd d name).2 = 0) (hne : to ≠ name) (hnm : isNm to = true) (hx : valid ⟨d.Inodes, d.Durable, d.Pending ++ [⟨2, name, to, 0⟩], L⟩ = true) (q : ByteArray) :
    con ⟨d.Inodes, d.Durable, d.Pending ++ [⟨2, name, to, 0⟩], L⟩ q = if q = to then con d name else if q = name then none else con d q := by
  obtain ⟨hv, hl⟩ := fnd_lk h
  obtain ⟨f, t, hR⟩ := cur_rd hv hD
  have hap : (ap (d.Inodes.length : Int) (cur d).1 ⟨2, name, to, 0⟩).1 = wi ⟨to, (fnd d name).1⟩ (wo (wo (cur d).1 name) to) := by
    simp only [ap, hl, show ((2 : Int) == 1) = false by rfl, show ((2 : Int) == 2) = true by rfl, show ((0 : Int) != 0) = false by rfl, cond_false, cond_true]
  have s1 := srt_wo (name := name) hR.srt
  have s2 := srt_wo (name := to) s1
  have hno : lkE to (wo (wo (cur d).1 name) to) = none := by rw [lkE_wo s1]; simp
  rw [con_pend hv hx, hap, lkE_wi s2 hno, lkE_wo s1, lkE_wo hR.srt]
  by_cases hq : q = to
  · simp [hq, con_some hv hl]
  · by_cases hq2 : q = name
    · simp only [hq2, decide_true, cond_true, Ne.symm hne, decide_false, cond_false, if_false, if_true, Option.map_none]
    · simp [hq, hq2, con_map hv]
theorem con_crt {d : GDisk} {name : ByteArray} {L : Int} (hv : valid d = true) (hD : d.Durable.length ≤ 1000000000) (hn : lkE name (cur d).1 = none) (hx : valid ⟨d.Inodes ++ [⟨bE, 0⟩], d.Durable, d.Pending ++ [⟨1, name, bE, (d.Inodes.length : Int)⟩], L⟩ = true) (q : ByteArray) :
    con ⟨d.Inodes ++ [⟨bE, 0⟩], d.Durable, d.Pending ++ [⟨1, name, bE, (d.Inodes.length : Int)⟩], L⟩ q = if q = name then some bE else con d q := by
  obtain ⟨f, t, hR⟩ := cur_rd hv hD
  have i6 := (valid_il hv).2.2.2.2.2
  have h7 := aft_succ i6
  have e : ((d.Inodes ++ [(⟨bE, 0⟩ : GInode)]).length : Int) = (d.Inodes.length : Int) + 1 := by simp
  have hcur : (cur ⟨d.Inodes ++ [⟨bE, 0⟩], d.Durable, d.Pending ++ [⟨1, name, bE, (d.Inodes.length : Int)⟩], L⟩).1 = wi ⟨name, (d.Inodes.length : Int)⟩ (cur d).1 := by
    show (aft ((d.Inodes ++ [(⟨bE, 0⟩ : GInode)]).length : Int) (d.Pending ++ [⟨1, name, bE, (d.Inodes.length : Int)⟩]) d.Durable).1 = _
    rw [e, aft_app (by rw [h7]; exact i6), h7]
    simp only [ap, show ((1 : Int) == 1) = true by rfl, cond_true]; rfl
  rw [con_map hx, hcur, lkE_wi hR.srt hn]
  by_cases hq : q = name
  · simp only [hq, decide_true, cond_true, if_true, Option.map_some, toNat_c]
    simp [List.getD]
  · rw [if_neg hq, con_map hv]
    simp only [hq, decide_false, cond_false]
    cases hlq : lkE q (cur d).1 with
    | none => rfl
    | some i =>
      have m2 := (lkE_some hR.srt).1 hlq
      obtain ⟨r1, r2⟩ := hR.rng _ m2
      simp only at r1 r2
      have hi : i.toNat < d.Inodes.length := by omega
      simp only [Option.map_some, List.getD, List.getElem?_append_left hi]
theorem lkE_rnk (l : Dir) (q : ByteArray) : ∀ m : Dir, lkE q (m.map (rnkE l)) = (lkE q m).map (fun i => (rnk l i.toNat : Int))
  | [] => rfl
  | e :: m => by
    simp only [List.map_cons, lkE, rnkE, lkE_rnk l q m]
    cases decide (e.Name = q) <;> rfl
theorem acI_getD (d : GDisk) (l : Dir) : ∀ (k i q : Nat), i ≤ q → q < i + k → usedE l (q : Int) = true → (acI d l i k).getD (rnk l q - rnk l i) dGInode = d.Inodes.getD q dGInode
  | 0, i, q, h1, h2, _ => by omega
  | k + 1, i, q, h1, h2, hu => by
    simp only [acI]
    by_cases e : i = q
    · subst e; simp only [hu, cond_true, Nat.sub_self]; rfl
    · have hm := rnk_mono l (i := i + 1) (q - (i + 1))
      rw [show i + 1 + (q - (i + 1)) = q by omega] at hm
      have ih := acI_getD d l k (i + 1) q (by omega) (by omega) hu
      cases hi : usedE l (i : Int) with
      | false =>
        have : rnk l (i + 1) = rnk l i := by simp only [rnk, hi, cond_false]; try omega
        rw [this] at ih
        simp only [cond_false]; exact ih
      | true =>
        have hr : rnk l (i + 1) = rnk l i + 1 := by simp only [rnk, hi, cond_true]; try omega
        simp only [cond_true]
        rw [hr] at ih hm
        rw [show rnk l q - rnk l i = (rnk l q - (rnk l i + 1)) + 1 by omega]
        simpa [List.getD] using ih
theorem sd_at {d : GDisk} {q : ByteArray} {i : Int} (hv : valid d = true) (hD : d.Durable.length ≤ 1000000000) (hl : lkE q (cur d).1 = some i) : (acI d (cur d).1 0 d.Inodes.length).getD (rnk (cur d).1 i.toNat) dGInode = d.Inodes.getD i.toNat dGInode := by
  obtain ⟨f, t, hR⟩ := cur_rd hv hD
  have m := (lkE_some hR.srt).1 hl
  obtain ⟨r1, r2⟩ := hR.rng _ m
  simp only at r1 r2
  have := acI_getD d (cur d).1 d.Inodes.length 0 i.toNat (by omega) (by omega) (usedE_iff.2 ⟨_, m, by simp only; omega⟩)
  simpa [rnk] using this
theorem con_sd {d : GDisk} {L : Int} (hv : valid d = true) (hD : d.Durable.length ≤ 1000000000) (hx : valid ⟨acI d (cur d).1 0 d.Inodes.length, (cur d).1.map (rnkE (cur d).1), [], L⟩ = true) (q : ByteArray) :
    con ⟨acI d (cur d).1 0 d.Inodes.length, (cur d).1.map (rnkE (cur d).1), [], L⟩ q = con d q := by
  rw [con_map hx, con_map hv, cur_nil (d := ⟨acI d (cur d).1 0 d.Inodes.length, (cur d).1.map (rnkE (cur d).1), [], L⟩) rfl]
  simp only [lkE_rnk]
  cases hl : lkE q (cur d).1 with
  | none => rfl
  | some i => simp only [Option.map_some, toNat_c, sd_at hv hD hl]

/-! ### DiskDurable -/
structure Dur (d D : GDisk) (names : List ByteArray) : Prop where
  v : valid D = true
  du : D.Durable = d.Durable
  pe : D.Pending = d.Pending
  le : D.Left = -1
  il : D.Inodes.length = d.Inodes.length
  da : ∀ q, con D q = con d q
  sy : ∀ x ∈ names, ∀ i, lkE x (cur d).1 = some i → (D.Inodes.getD i.toNat dGInode).Synced = ((D.Inodes.getD i.toNat dGInode).Data.size : Int)
theorem Dur.cur {d D : GDisk} {l : List ByteArray} (h : Dur d D l) : cur D = cur d := by unfold Go.Proofs.Ytkignmhjbjgkoaa.cur; rw [h.du, h.pe, h.il]
theorem Dur.bd {d D : GDisk} {l : List ByteArray} {B : Nat} (h : Dur d D l) (hb : Bd B d) : Bd B D := ⟨fun e he => hb.dn e (by rw [← h.du]; exact he), fun e he => hb.pn e (by rw [← h.pe]; exact he), by rw [h.du]; exact hb.dl, by rw [h.pe]; exact hb.pl, by rw [h.il]; exact hb.il, hb.big⟩
theorem Dur.step {d D : GDisk} {l : List ByteArray} {x : ByteArray} (h : Dur d D l) (hD : d.Durable.length ≤ 1000000000) (hx : x ∈ lsF d) (hv : valid d = true) : (synF D x).2 = 0 ∧ Dur d (synF D x).1 (l ++ [x]) := by
  have hDD : D.Durable.length ≤ 1000000000 := by rw [h.du]; exact hD
  have hxm : ∃ e ∈ (Go.Proofs.Ytkignmhjbjgkoaa.cur d).1, e.Name = x := by
    simp only [lsF, hv, cond_true] at hx
    obtain ⟨e, he, hn⟩ := List.mem_map.1 hx
    exact ⟨e, he, hn⟩
  obtain ⟨e, he, hn⟩ := hxm
  obtain ⟨f, t, hR⟩ := cur_rd hv hD
  have hl : lkE x (Go.Proofs.Ytkignmhjbjgkoaa.cur D).1 = some e.Inode := by
    rw [h.cur]; refine (lkE_some hR.srt).2 ?_; rw [← hn]; exact he
  have hf : fnd D x = (e.Inode, 0) := by simp only [fnd, h.v, hl, cond_true]
  have hf2 : (fnd D x).2 = 0 := by rw [hf]
  have hsy : synF D x = (⟨D.Inodes.set (ino D x) ⟨(file D x).Data, ((file D x).Data.size : Int)⟩, D.Durable, D.Pending, -1⟩, 0) := by
    unfold synF prf
    rw [if_neg (by simp [hf2]), if_neg (by rw [h.le]; omega), h.le]; rfl
  have hok : (synF D x).2 = 0 := by rw [hsy]
  have v1 := ((do_valid (d := D) ⟨3, x, bE, bE, 0⟩ hDD).1 (Or.inl hok)).2
  rw [doF_syn] at v1
  obtain ⟨_, o2, o3, o4, _, _⟩ := file_ok hDD hf2
  have hino : ino D x = e.Inode.toNat := by unfold ino; rw [hf]
  refine ⟨hok, v1, ?_, ?_, ?_, ?_, fun q => ?_, fun y hy i hi => ?_⟩
  · rw [hsy]; exact h.du
  · rw [hsy]; exact h.pe
  · rw [hsy]
  · rw [hsy]; simp only [List.length_set]; exact h.il
  · have hv1 := v1
    rw [hsy] at hv1 ⊢
    rw [con_chg hDD hf2 hv1]
    by_cases hq : q = x
    · rw [if_pos hq, hq, ← h.da, con_some h.v hl]
      unfold file; rw [hino]
    · rw [if_neg hq]; exact h.da q
  · rw [hsy]
    simp only
    by_cases hi2 : ino D x = i.toNat
    · rw [← hi2, getD_set_eq o2]
    · rw [getD_set_ne hi2]
      rcases List.mem_append.1 hy with hy | hy
      · exact h.sy y hy i hi
      · have : y = x := by simpa using hy
        subst this
        rw [← h.cur, hl] at hi
        cases hi
        exact absurd hino hi2

theorem durable_end {d D : GDisk} (picks : List Int) (hb : Bd 200 d) (hw : Lw d) (h : Dur d D (lsF d)) (hv : valid d = true) (hp : picks.length ≤ 60) {F : List (ByteArray × ByteArray)} (hF : (F.map (·.1)).Nodup) (hc : ∀ q, lk q F = con d q) (hI : D.Inodes.length ≤ 100) (hDu : D.Durable.length + D.Pending.length ≤ 100) :
    lookoutlaw22_DiskDurable_s1 9999 picks F D.Inodes D.Durable D.Pending D.Left = some true := by
  have hbD := h.bd hb
  have hDD : D.Durable.length ≤ 1000000000 := by have := hbD.dl; omega
  have hwD : Lw D := ⟨by rw [h.le]; omega, by rw [h.le]; omega⟩
  have hsd : sdF D = (⟨acI D (cur D).1 0 D.Inodes.length, (cur D).1.map (rnkE (cur D).1), [], -1⟩, 0) := by
    unfold sdF prf
    rw [if_neg (by simp [h.v]), if_neg (by rw [h.le]; omega), h.le]; rfl
  have vx := valid_sync h.v hDD (-1) (by omega)
  have hcD := con_sd h.v hDD vx
  obtain ⟨x, hx⟩ : ∃ x : GDisk, (⟨acI D (cur D).1 0 D.Inodes.length, (cur D).1.map (rnkE (cur D).1), [], -1⟩ : GDisk) = x := ⟨_, rfl⟩
  have hxd : x.Durable = (cur D).1.map (rnkE (cur D).1) := by rw [← hx]
  have hxi : x.Inodes = acI D (cur D).1 0 D.Inodes.length := by rw [← hx]
  have hxp : x.Pending = [] := by rw [← hx]
  rw [hx] at hsd vx hcD
  have hcl := cur_len h.v hDD
  have hal := acI_len D (cur D).1 D.Inodes.length 0
  have hrk := rnk_le (cur D).1 D.Inodes.length
  simp only [rnk, Nat.zero_add, Nat.add_zero] at hal
  obtain ⟨f, t, hR⟩ := cur_rd h.v hDD
  have hbx : Bd 1000 x := ⟨fun e he => by
    rw [hxd] at he
    obtain ⟨e0, he0, rfl⟩ := List.mem_map.1 he
    have := isNm_size (hR.nms e0 he0); simp only [rnkE]; omega, fun e he => by rw [hxp] at he; simp at he, by rw [hxd, List.length_map]; exact hcl, by rw [hxp]; simp, by rw [hxi]; omega, by omega⟩
  have hxD : x.Durable.length ≤ 1000000000 := by have := hbx.dl; omega
  have hcb := crF_bd picks vx hxD
  obtain ⟨X, f1, f2, f3⟩ := files_eq 9999 1000 (crF x picks) hcb (by omega)
  have hX := files_len (by have := hcb.dl; omega) f2 f3
  have hsame : ∀ q, lk q X = lk q F := fun q => by
    rw [f3, hc, ← h.da q, ← hcD q]
    obtain ⟨q1, q2⟩ := con_crF picks vx hxD q
    have hdir : crDir x picks = x.Durable := crDir_nil picks hxp
    rw [hdir] at q1 q2
    cases hl : lkE q x.Durable with
    | none => rw [q1 hl, con_none vx (by rw [cur_nil hxp]; exact hl)]
    | some i =>
      obtain ⟨k, k1, k2, k3, k4, k5, k6⟩ := q2 i hl
      rw [k6, con_some vx (by rw [cur_nil hxp]; exact hl)]
      have hl2 := hl
      rw [hxd, lkE_rnk] at hl2
      cases hl3 : lkE q (cur D).1 with
      | none => rw [hl3] at hl2; cases hl2
      | some j =>
        rw [hl3] at hl2
        have hij : i = (rnk (cur D).1 j.toNat : Int) := (Option.some.inj hl2).symm
        have hat : x.Inodes.getD i.toNat dGInode = D.Inodes.getD j.toNat dGInode := by
          rw [hxi, hij, toNat_c]; exact sd_at h.v hDD hl3
        have hsy := h.sy q (by
          have : (con d q).isSome = true := by rw [← h.da, con_some h.v hl3]; rfl
          exact con_ls this) j (by rw [← h.cur]; exact hl3)
        rw [← hat] at hsy
        rw [extract_all _ _ (by omega)]
  have hdd : (⟨D.Inodes, D.Durable, D.Pending, D.Left⟩ : GDisk) = D := rfl
  simp only [lookoutlaw22_DiskDurable_s1, hdd, syncdir_f 9999 200 D hbD hwD (by omega), hsd, Option.bind_some, show ((0 : Int) == 0) = true by rfl, cond_true, crash_d 9999 1000 x picks hbx (by omega) (by omega), f1, equal_eq 9999 f2 hF hsame (by omega), awake_eq]
theorem durable_l0' {d : GDisk} (picks : List Int) (hb : Bd 200 d) (hw : Lw d) (hv : valid d = true) (hp : picks.length ≤ 60) {F : List (ByteArray × ByteArray)} (hF : (F.map (·.1)).Nodup) (hc : ∀ q, lk q F = con d q) (hI : d.Inodes.length ≤ 40) (hDu : d.Durable.length ≤ 40) (hP : d.Pending.length ≤ 40) (hls : (lsF d).length ≤ 1000) : ∀ (k i m : Nat) (D : GDisk), i + k = (lsF d).length → Dur d D ((lsF d).take i) → k < m →
    lookoutlaw22_DiskDurable_l0 9999 picks (lsF d) F m D.Inodes D.Durable D.Pending D.Left ((lsF d).length : Int) (i : Int) = some true
  | k, i, 0, _, _, _, h => by omega
  | 0, i, m + 1, D, h, hd, _ => by
    have : ¬ ((i : Int) < ((lsF d).length : Int)) := by omega
    simp only [lookoutlaw22_DiskDurable_l0, this, decide_false, cond_false]
    rw [List.take_of_length_le (by omega)] at hd
    exact durable_end picks hb hw hd hv hp hF hc (by rw [hd.il]; omega) (by rw [hd.du, hd.pe]; omega)
  | k + 1, i, m + 1, D, h, hd, h2 => by
    have hlt : (i : Int) < ((lsF d).length : Int) := by omega
    have h0 : (0 : Int) ≤ (i : Int) := by omega
    have hdd : (⟨D.Inodes, D.Durable, D.Pending, D.Left⟩ : GDisk) = D := rfl
    have hDD : d.Durable.length ≤ 1000000000 := by omega
    obtain ⟨s1, s2⟩ := hd.step hDD (getD_in bE (show i < (lsF d).length by omega)) hv
    simp only [lookoutlaw22_DiskDurable_l0, hlt, h0, decide_true, Bool.and_true, cond_true, toNat_c, hdd, sync_f 9999 200 D _ (hd.bd hb) ⟨by rw [hd.le]; omega, by rw [hd.le]; omega⟩ (by omega), Option.bind_some, s1, show ((0 : Int) != 0) = false by rfl, cond_false, wr1 i (by omega)]
    rw [← take_succ (show i < (lsF d).length by omega)] at s2
    exact durable_l0' picks hb hw hv hp hF hc hI hDu hP hls k (i + 1) m _ (by omega) s2 (by omega)

theorem diskDurable_law (d : GDisk) (picks : List Int) (hw : wfGDisk d) : ∃ n, lookoutlaw22_DiskDurable n d picks = some true := by
  refine ⟨10000, ?_⟩
  obtain ⟨b, g1, g2⟩ := great_eq 9999 d (by omega) (by omega)
  show (lookoutref22_Great 9999 d).bind _ = _
  rw [g1]
  simp only [Option.bind_some, awake_eq]
  cases b with
  | true => rfl
  | false =>
    obtain ⟨hb, h1, h2, h3⟩ := g2 rfl
    simp only [cond_false]
    by_cases c1 : (picks.length : Int) > 60
    · simp only [c1, decide_true, cond_true]
    · simp only [c1, decide_false, cond_false, check_eq 9999 200 d hb (by omega), Option.bind_some]
      cases hv : valid d with
      | false => rfl
      | true =>
        simp only [cond_true, show ((0 : Int) != 0) = false by rfl, cond_false]
        by_cases c2 : d.Left = -1
        · have e : (d.Left != -1) = false := by simp [c2]
          obtain ⟨F, f1, f2, f3⟩ := files_eq 9999 200 d hb (by omega)
          have hls := lsF_len (d := d) (by omega)
          simp only [e, cond_false, f1, Option.bind_some, list_d 9999 200 d hb (by omega)]
          exact durable_l0' picks hb (lw_of hw) hv (by omega) f2 f3 h1 h2 h3 hls (lsF d).length 0 9999 d (by omega) ⟨hv, rfl, rfl, c2, rfl, fun _ => rfl, fun x hx => by simp at hx⟩ (by omega)
        · have e : (d.Left != -1) = true := by simpa [bne] using c2
          simp only [e, cond_true]
end Go.Proofs.Ytkignmhjbjgkoaa
