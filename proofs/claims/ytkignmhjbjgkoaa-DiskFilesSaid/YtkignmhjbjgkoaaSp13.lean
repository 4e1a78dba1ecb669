/- Plain laws, 13: what a disk's files hold; maps held against each other; DiskLoss, DiskDurable. -/
import Derived.Test.YtkignmhjbjgkoaaSp12
set_option linter.unusedVariables false
set_option linter.unusedSimpArgs false
namespace Go.Proofs.Ytkignmhjbjgkoaa
open Go Go.AM

/-- What is read under a name. -/
def con (d : GDisk) (name : ByteArray) : Option ByteArray := bif valid d then (lkE name (cur d).1).map (fun i => (d.Inodes.getD i.toNat dGInode).Data) else none
theorem con_some {d : GDisk} {name : ByteArray} {i : Int} (hv : valid d = true) (hl : lkE name (cur d).1 = some i) : con d name = some (d.Inodes.getD i.toNat dGInode).Data := by simp only [con, hv, hl, cond_true, Option.map_some]
theorem con_none {d : GDisk} {name : ByteArray} (hv : valid d = true) (hl : lkE name (cur d).1 = none) : con d name = none := by simp only [con, hv, hl, cond_true, Option.map_none]
theorem rdF_some {d : GDisk} {name s : ByteArray} (h : con d name = some s) : rdF d name = (s, 0) := by
  unfold con at h
  cases hv : valid d with
  | false => rw [hv] at h; cases h
  | true =>
    rw [hv] at h
    simp only [cond_true] at h
    cases hl : lkE name (cur d).1 with
    | none => rw [hl] at h; cases h
    | some i => rw [hl] at h; cases h; exact rd_some hv hl
theorem rdF_none {d : GDisk} {name : ByteArray} (h : con d name = none) : ((rdF d name).2 == 0) = false := by
  unfold con at h
  unfold rdF fnd
  cases hv : valid d with
  | false => rfl
  | true =>
    rw [hv] at h
    simp only [cond_true] at h ⊢
    cases hl : lkE name (cur d).1 with
    | none => rfl
    | some i => rw [hl] at h; cases h
theorem con_of {d : GDisk} {name s : ByteArray} (h : rdF d name = (s, 0)) : con d name = some s := by
  cases hc : con d name with
  | none => have := rdF_none hc; rw [h] at this; cases this
  | some t => rw [rdF_some hc] at h; cases h; rfl
theorem con_ls {d : GDisk} {name : ByteArray} (h : (con d name).isSome = true) : name ∈ lsF d := by
  unfold con at h
  unfold lsF
  cases hv : valid d with
  | false => rw [hv] at h; cases h
  | true =>
    rw [hv] at h
    simp only [cond_true] at h ⊢
    cases hl : lkE name (cur d).1 with
    | none => rw [hl] at h; cases h
    | some i => obtain ⟨e, he, hn, _⟩ := lkE_mem hl; exact List.mem_map.2 ⟨e, he, hn⟩

theorem files_l0 (n B : Nat) (d : GDisk) (hb : Bd B d) (hn : B + 1120 ≤ n) (names : List ByteArray) (hl : names.length ≤ 1000000) : ∀ (k i m : Nat) (acc : List (ByteArray × ByteArray)), i + k = names.length → (acc.map (·.1)).Nodup → k < m →
    ∃ F, lookoutlaw22_files_l0 n d names m (names.length : Int) (i : Int) acc = some F ∧ (F.map (·.1)).Nodup ∧ ∀ q, (q ∈ names.drop i → (con d q).isSome = true → lk q F = con d q) ∧ ((q ∈ names.drop i → con d q = none) → lk q F = lk q acc)
  | k, i, 0, _, _, _, h => by omega
  | 0, i, m + 1, acc, h, ha, _ => by
    have : ¬ ((i : Int) < (names.length : Int)) := by omega
    have h2 : names.drop i = [] := List.drop_eq_nil_of_le (by omega)
    refine ⟨acc, by simp only [lookoutlaw22_files_l0, this, decide_false, cond_false], ha, fun q => ?_⟩
    rw [h2]; exact ⟨fun hq => by simp at hq, fun _ => rfl⟩
  | k + 1, i, m + 1, acc, h, ha, h2 => by
    have hlt : (i : Int) < (names.length : Int) := by omega
    have h0 : (0 : Int) ≤ (i : Int) := by omega
    obtain ⟨x, hx⟩ : ∃ x, names.getD i bE = x := ⟨_, rfl⟩
    have hd : names.drop i = x :: names.drop (i + 1) := by rw [← hx]; exact getD_drop (by omega)
    simp only [lookoutlaw22_files_l0, lookoutlaw22_files_s1, hlt, h0, decide_true, Bool.and_true, cond_true, toNat_c, hx, read_d n B d x hb hn, Option.bind_some, wr1 i (by omega)]
    cases hc : con d x with
    | none =>
      rw [rdF_none hc]
      simp only [cond_false]
      obtain ⟨F, e1, e2, e3⟩ := files_l0 n B d hb hn names hl k (i + 1) m acc (by omega) ha (by omega)
      refine ⟨F, e1, e2, fun q => ?_⟩
      obtain ⟨e4, e5⟩ := e3 q
      rw [hd]
      refine ⟨fun hq hs => ?_, fun hq => e5 fun h3 => hq (List.mem_cons_of_mem _ h3)⟩
      rcases List.mem_cons.1 hq with rfl | hq
      · rw [hc] at hs; cases hs
      · exact e4 hq hs
    | some s =>
      rw [rdF_some hc]
      simp only [show ((0 : Int) == 0) = true by rfl, cond_true]
      obtain ⟨F, e1, e2, e3⟩ := files_l0 n B d hb hn names hl k (i + 1) m (putL x s acc) (by omega) (nodup_put ha) (by omega)
      refine ⟨F, e1, e2, fun q => ?_⟩
      obtain ⟨e4, e5⟩ := e3 q
      rw [hd]
      rw [lk_put] at e5
      refine ⟨fun hq hs => ?_, fun hq => ?_⟩
      · by_cases hqd : q ∈ names.drop (i + 1)
        · exact e4 hqd hs
        · rcases List.mem_cons.1 hq with rfl | hq
          · rw [e5 (fun h3 => absurd h3 hqd), hc]; simp
          · exact absurd hq hqd
      · have hne : q ≠ x := fun e => by subst e; have := hq (by simp); rw [hc] at this; cases this
        rw [e5 (fun h3 => hq (List.mem_cons_of_mem _ h3))]; simp [hne]
theorem files_eq (n B : Nat) (d : GDisk) (hb : Bd B d) (hn : B + 1200 ≤ n) : ∃ F, lookoutlaw22_files n d = some F ∧ (F.map (·.1)).Nodup ∧ ∀ q, lk q F = con d q := by
  obtain ⟨m, rfl⟩ : ∃ m, n = m + 1 := ⟨n - 1, by omega⟩
  have hB := hb.big; have hdl := hb.dl
  have hll := lsF_len (d := d) (by omega)
  obtain ⟨F, e1, e2, e3⟩ := files_l0 m B d hb (by omega) (lsF d) (by omega) (lsF d).length 0 m [] (by omega) (by simp) (by omega)
  refine ⟨F, ?_, e2, fun q => ?_⟩
  · simp only [lookoutlaw22_files, list_d m B d hb (by omega), Option.bind_some]; exact e1
  · obtain ⟨e4, e5⟩ := e3 q
    rw [List.drop_zero] at e4 e5
    cases hc : con d q with
    | none => rw [e5 (fun _ => hc)]; rfl
    | some s => rw [← hc]; exact e4 (con_ls (by rw [hc]; rfl)) (by rw [hc]; rfl)

/-! ### Two maps -/
theorem len_sub : ∀ {l m : List ByteArray}, l.Nodup → (∀ x ∈ l, x ∈ m) → l.length ≤ m.length
  | [], m, _, _ => Nat.zero_le _
  | a :: l, m, hn, h => by
    obtain ⟨s, t, hm⟩ := List.append_of_mem (h a (by simp))
    have hn' := List.nodup_cons.1 hn
    have := len_sub (l := l) (m := s ++ t) hn'.2 (fun x hx => by
      have := h x (List.mem_cons_of_mem _ hx)
      rw [hm] at this
      rcases List.mem_append.1 this with h1 | h1
      · exact List.mem_append.2 (.inl h1)
      · rcases List.mem_cons.1 h1 with h2 | h2
        · exact absurd (h2 ▸ hx) hn'.1
        · exact List.mem_append.2 (.inr h2))
    rw [hm]
    simp only [List.length_cons, List.length_append] at this ⊢
    omega
theorem lk_self : ∀ {A : List (ByteArray × ByteArray)}, (A.map (·.1)).Nodup → ∀ p ∈ A, lk p.1 A = some p.2
  | [], _, p, h => by simp at h
  | (a, b) :: l, hn, p, h => by
    have hn' : a ∉ l.map (·.1) ∧ (l.map (·.1)).Nodup := List.nodup_cons.1 hn
    simp only [lk, beqS]
    rcases List.mem_cons.1 h with rfl | h
    · simp
    · have : a ≠ p.1 := fun e => hn'.1 (e ▸ List.mem_map.2 ⟨p, h, rfl⟩)
      have ih := lk_self hn'.2 p h
      by_cases e : p.1 = a
      · exact absurd e.symm this
      · simp [e, this, ih]
theorem same_len {A B : List (ByteArray × ByteArray)} (hA : (A.map (·.1)).Nodup) (hB : (B.map (·.1)).Nodup) (h : ∀ q, lk q A = lk q B) : A.length = B.length := by
  have h1 := len_sub hA (m := B.map (·.1)) (fun x hx => by rw [← lk_mem, ← h]; exact lk_mem.2 hx)
  have h2 := len_sub hB (m := A.map (·.1)) (fun x hx => by rw [← lk_mem, h]; exact lk_mem.2 hx)
  simp only [List.length_map] at h1 h2
  omega
theorem getD_in {α : Type} {T : List α} {j : Nat} (d : α) (h : j < T.length) : T.getD j d ∈ T := by
  simp only [List.getD, List.getElem?_eq_getElem h, Option.getD_some]; exact List.getElem_mem h
theorem equal_l0 (n : Nat) {A B : List (ByteArray × ByteArray)} (hA : (A.map (·.1)).Nodup) (hB : (B.map (·.1)).Nodup) (h : ∀ q, lk q A = lk q B) : ∀ (k : Nat) (T : List (ByteArray × ByteArray)) (m : Nat) (x : Option (ByteArray × ByteArray)), T.length = k → (∀ p ∈ T, lk p.1 A = some p.2) → k < m →
    lookoutlaw22_equal_l0 n B A m T x = some (true, B, A)
  | k, T, 0, x, _, _, h2 => by omega
  | 0, T, m + 1, x, hk, _, _ => by
    obtain rfl := List.length_eq_zero_iff.1 hk
    simp only [lookoutlaw22_equal_l0, lookoutlaw22_equal_s1, List.isEmpty_nil, cond_true, same_len hA hB h, beq_self_eq_true]
  | k + 1, T, m + 1, x, hk, hT, h2 => by
    have he : T.isEmpty = false := by cases T <;> simp_all
    simp only [lookoutlaw22_equal_l0, he, cond_false]
    refine agree_of (by omega) (fun j hj => ?_)
    have hm := hT _ (getD_in (bE, bE) hj)
    have hmB : lk (T.getD j (bE, bE)).1 B = some (T.getD j (bE, bE)).2 := by rw [← h]; exact hm
    simp only [hmB, Option.isSome_some, Bool.not_true, cond_false, Option.getD_some, sNe_eq, decide_true]
    exact equal_l0 n hA hB h k (T.eraseIdx j) m _ (by rw [List.length_eraseIdx, if_pos hj]; omega) (fun p hp => hT p (List.mem_of_mem_eraseIdx hp)) (by omega)
theorem equal_eq (n : Nat) {A B : List (ByteArray × ByteArray)} (hA : (A.map (·.1)).Nodup) (hB : (B.map (·.1)).Nodup) (h : ∀ q, lk q A = lk q B) (hn : A.length + 2 ≤ n) : lookoutlaw22_equal n B A = some (true, B, A) := by
  obtain ⟨m, rfl⟩ : ∃ m, n = m + 1 := ⟨n - 1, by omega⟩
  simp only [lookoutlaw22_equal]
  exact equal_l0 m hA hB h A.length A m none rfl (lk_self hA) (by omega)

/-! ### After a loss of power -/
theorem con_crF {d : GDisk} (picks : List Int) (hv : valid d = true) (hD : d.Durable.length ≤ 1000000000) (q : ByteArray) :
    (lkE q (crDir d picks) = none → con (crF d picks) q = none) ∧ ∀ i, lkE q (crDir d picks) = some i → ∃ k : Int, (d.Inodes.getD i.toNat dGInode).Synced ≤ k ∧ k ≤ ((d.Inodes.getD i.toNat dGInode).Data.size : Int) ∧ 0 ≤ k ∧ 0 ≤ i ∧ i < d.Inodes.length ∧ con (crF d picks) q = some (ByteArray.extract (d.Inodes.getD i.toNat dGInode).Data 0 k.toNat) := by
  obtain ⟨v1, v2, v3⟩ := crF_valid picks hv hD
  obtain ⟨f, t, hR⟩ := crDir_Rd picks hv hD
  have hgD := crD_len (crDir d picks) (crDir d picks).length 0
  refine ⟨fun h => con_none v1 ?_, fun i h => ?_⟩
  · rw [cur_nil v3, crF_eq picks hv]
    refine lkE_none.2 fun e he => ?_
    obtain ⟨j, hj, rfl⟩ := get_mem dGDirEntry he
    rw [hgD] at hj
    rw [crD_at _ hj]
    have := lkE_none.1 h _ (getD_mem hj); exact this
  · have hm := (lkE_some hR.srt).1 h
    obtain ⟨r1, r2⟩ := hR.rng _ hm
    obtain ⟨k, k1, k2, k3, k4⟩ := read_crash picks hv hD hm
    exact ⟨k, k1, k2, k3, r1, r2, con_of k4⟩
theorem con_bad {d : GDisk} (picks : List Int) (hv : valid d = false) (q : ByteArray) : con (crF d picks) q = none := by
  have : crF d picks = ⟨[], [], [], 0⟩ := by simp only [crF, hv, cond_false]
  rw [this]; rfl
theorem bd_bad {d : GDisk} (picks : List Int) (hv : valid d = false) : Bd 1000 (crF d picks) := by
  have : crF d picks = ⟨[], [], [], 0⟩ := by simp only [crF, hv, cond_false]
  rw [this]
  exact ⟨fun e he => by simp at he, fun e he => by simp at he, by simp, by simp, by simp, by omega⟩

/-! ### DiskLoss -/
theorem hasPrefix_eq (n : Nat) (a b : ByteArray) (hn : 2 ≤ n) : strings_HasPrefix n a b = some (decide (b.size ≤ a.size) && decide (ByteArray.extract a 0 b.size = b)) := by
  obtain ⟨m, rfl⟩ : ∃ m, n = m + 2 := ⟨n - 2, by omega⟩
  by_cases h : b.size ≤ a.size
  · simp only [strings_HasPrefix, stringslite_HasPrefix, show ((a.size : Int) ≥ (b.size : Int)) by omega, show (0 : Int) ≤ 0 by omega, show (0 : Int) ≤ (b.size : Int) by omega, show ((b.size : Int) ≤ (a.size : Int)) by omega, h, decide_true, Bool.and_true, Bool.true_and, cond_true, Option.bind_some, sEq_eq]
  · simp only [strings_HasPrefix, stringslite_HasPrefix, show ¬ ((a.size : Int) ≥ (b.size : Int)) by omega, h, decide_false, Bool.false_and, cond_false, Option.bind_some]
def good (x : GInode) (s : ByteArray) : Bool := decide ((s.size : Int) ≥ x.Synced) && (decide (s.size ≤ x.Data.size) && decide (ByteArray.extract x.Data 0 s.size = s))
theorem loss_c1 (n : Nat) (x : GInode) (s : ByteArray) (hn : 3 ≤ n) : lookoutlaw22_DiskLoss_c1 n x s = some (good x s) := by
  obtain ⟨m, rfl⟩ : ∃ m, n = m + 1 := ⟨n - 1, by omega⟩
  simp only [lookoutlaw22_DiskLoss_c1, hasPrefix_eq m x.Data s (by omega), Option.bind_some, good]
  cases decide ((s.size : Int) ≥ x.Synced) <;> rfl
theorem index_l0 (n : Nat) (L : List GInode) (s : ByteArray) (hn : 3 ≤ n) (hL : L.length ≤ 1000000) (q : Nat) (hq : q < L.length) (hg : good (L.getD q dGInode) s = true) : ∀ (k i m : Nat), i + k = q → k < m →
    ∃ r : Int, slices_IndexFunc_l0 n L s m (L.length : Int) (i : Int) = some r ∧ 0 ≤ r
  | k, i, 0, _, h => by omega
  | k, i, m + 1, h, h2 => by
    have hlt : (i : Int) < (L.length : Int) := by omega
    have h0 : (0 : Int) ≤ (i : Int) := by omega
    simp only [slices_IndexFunc_l0, hlt, h0, decide_true, Bool.and_true, cond_true, toNat_c, loss_c1 n _ s hn, Option.bind_some, wr1 i (by omega)]
    cases hg2 : good (L.getD i dGInode) s with
    | true => exact ⟨(i : Int), rfl, h0⟩
    | false =>
      cases k with
      | zero => rw [show i = q by omega, hg] at hg2; cases hg2
      | succ k => exact index_l0 n L s hn hL q hq hg k (i + 1) m (by omega) (by omega)
theorem contains_eq (n : Nat) (L : List GInode) (s : ByteArray) (hL : L.length ≤ 1000000) (q : Nat) (hq : q < L.length) (hg : good (L.getD q dGInode) s = true) (hn : L.length + 6 ≤ n) : slices_ContainsFunc n L s = some true := by
  obtain ⟨m, rfl⟩ : ∃ m, n = m + 2 := ⟨n - 2, by omega⟩
  obtain ⟨r, h1, h2⟩ := index_l0 m L s (by omega) hL q hq hg q 0 m (by omega) (by omega)
  have h1' : slices_IndexFunc_l0 m L s m (L.length : Int) 0 = some r := h1
  simp only [slices_ContainsFunc, slices_IndexFunc, h1', Option.bind_some, show r ≥ 0 from h2, decide_true]
theorem loss_l0 (d : GDisk) (r5 : List (ByteArray × ByteArray)) (hI : d.Inodes.length ≤ 1000) : ∀ (k : Nat) (T : List (ByteArray × ByteArray)) (m : Nat) (x : Option (ByteArray × ByteArray)), T.length = k → (∀ p ∈ T, ∃ q, q < d.Inodes.length ∧ good (d.Inodes.getD q dGInode) p.2 = true) → k < m →
    lookoutlaw22_DiskLoss_l0 9999 d r5 m T x = some true
  | k, T, 0, x, _, _, h2 => by omega
  | 0, T, m + 1, x, hk, _, _ => by
    obtain rfl := List.length_eq_zero_iff.1 hk
    simp only [lookoutlaw22_DiskLoss_l0, lookoutlaw22_DiskLoss_s1, List.isEmpty_nil, cond_true, awake_eq, Option.bind_some]
  | k + 1, T, m + 1, x, hk, hT, h2 => by
    have he : T.isEmpty = false := by cases T <;> simp_all
    simp only [lookoutlaw22_DiskLoss_l0, he, cond_false]
    refine agree_of (by omega) (fun j hj => ?_)
    obtain ⟨q, hq, hg⟩ := hT _ (getD_in (bE, bE) hj)
    simp only [contains_eq 9999 d.Inodes _ (by omega) q hq hg (by omega), Option.bind_some, Bool.not_true, cond_false]
    exact loss_l0 d r5 hI k (T.eraseIdx j) m _ (by rw [List.length_eraseIdx, if_pos hj]; omega) (fun p hp => hT p (List.mem_of_mem_eraseIdx hp)) (by omega)
theorem files_len {F : List (ByteArray × ByteArray)} {d : GDisk} (hD : d.Durable.length ≤ 1000000000) (hn : (F.map (·.1)).Nodup) (h : ∀ q, lk q F = con d q) : F.length ≤ 1000 := by
  have h1 := len_sub hn (m := lsF d) (fun x hx => con_ls (by rw [← h]; exact lk_mem.2 hx))
  have h2 := lsF_len (d := d) hD
  simp only [List.length_map] at h1
  omega

theorem diskLoss_law (d : GDisk) (picks : List Int) : ∃ n, lookoutlaw22_DiskLoss n d picks = some true := by
  refine ⟨10000, ?_⟩
  obtain ⟨b, g1, g2⟩ := great_eq 9999 d (by omega) (by omega)
  show (lookoutref22_Great 9999 d).bind _ = _
  rw [g1]
  simp only [Option.bind_some, awake_eq]
  cases b with
  | true => rfl
  | false =>
    obtain ⟨hb, h1, h2, h3⟩ := g2 rfl
    simp only [cond_false]
    by_cases c1 : (picks.length : Int) > 60
    · simp only [c1, decide_true, cond_true]
    · have hcb : Bd 1000 (crF d picks) := by
        cases hv : valid d with
        | true => exact crF_bd picks hv (by omega)
        | false => exact bd_bad picks hv
      obtain ⟨F, f1, f2, f3⟩ := files_eq 9999 1000 (crF d picks) hcb (by omega)
      simp only [c1, decide_false, cond_false, crash_d 9999 200 d picks hb (by omega) (by omega), Option.bind_some, f1]
      have hF := files_len (by have := hcb.dl; omega) f2 f3
      refine loss_l0 d F (by omega) F.length F 9999 none rfl (fun p hp => ?_) (by omega)
      have hc : con (crF d picks) p.1 = some p.2 := by rw [← f3]; exact lk_self f2 p hp
      cases hv : valid d with
      | false => rw [con_bad picks hv] at hc; cases hc
      | true =>
        obtain ⟨q1, q2⟩ := con_crF picks hv (by omega) p.1
        cases hl : lkE p.1 (crDir d picks) with
        | none => rw [q1 hl] at hc; cases hc
        | some i =>
          obtain ⟨k, k1, k2, k3, k4, k5, k6⟩ := q2 i hl
          rw [k6] at hc
          have hs := Option.some.inj hc
          have hsz := extract_size (d.Inodes.getD i.toNat dGInode).Data k.toNat (by omega)
          refine ⟨i.toNat, by omega, ?_⟩
          unfold good
          rw [← hs, hsz, decide_eq_true (show ((k.toNat : Nat) : Int) ≥ (d.Inodes.getD i.toNat dGInode).Synced by omega), decide_eq_true (show k.toNat ≤ (d.Inodes.getD i.toNat dGInode).Data.size by omega)]
          simp
end Go.Proofs.Ytkignmhjbjgkoaa
