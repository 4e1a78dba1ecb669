/- Plain laws, 10: the reference's operations; DiskChanges, DiskRun. -/
import Derived.Test.YtkignmhjbjgkoaaGreatSp9
set_option linter.unusedVariables false
set_option linter.unusedSimpArgs false
namespace Go.Proofs.YtkignmhjbjgkoaaGreat
open Go Go.AM

theorem app_ok0 {n b : Nat} (h : n * b ≤ 140737488355328) (hb : 1 ≤ b) : (true && (decide ((0 + n) * b ≤ 140737488355328) && decide (0 + n ≤ 9223372036854775807))) = true := by
  have h1 : n * 1 ≤ n * b := Nat.mul_le_mul_left n hb
  simp only [Bool.true_and, Bool.and_eq_true, decide_eq_true_eq, Nat.zero_add]
  omega
/-! ### SyncDir -/
def inn (d : GDisk) (l : Dir) (i : Nat) (j : Nat) : Nat → List GInode × Dir → List GInode × Dir
  | 0, s => s
  | k + 1, s => bif (l.getD j dGDirEntry).Inode == (i : Int) then inn d l i (j + 1) k (s.1 ++ [d.Inodes.getD i dGInode], s.2.set j ⟨(s.2.getD j dGDirEntry).Name, (s.1.length : Int)⟩) else inn d l i (j + 1) k s
theorem srt_inj {l : Dir} (h : Srt l) {a b : Nat} (ha : a < l.length) (hb : b < l.length) (e : l.getD a dGDirEntry = l.getD b dGDirEntry) : a = b := by
  have hg : ∀ {c : Nat} (hc : c < l.length), l.getD c dGDirEntry = l[c] := fun hc => by simp [List.getD, List.getElem?_eq_getElem hc]
  rw [hg ha, hg hb] at e
  rcases Nat.lt_trichotomy a b with h1 | h1 | h1
  · have := List.pairwise_iff_getElem.1 h a b ha hb h1; rw [e] at this; exact absurd this (ky_lt_irrefl _)
  · exact h1
  · have := List.pairwise_iff_getElem.1 h b a hb ha h1; rw [e] at this; exact absurd this (ky_lt_irrefl _)
theorem inn_none (d : GDisk) (l : Dir) (i : Nat) : ∀ (k j : Nat) (s : List GInode × Dir), j + k = l.length → (∀ q, j ≤ q → q < l.length → (l.getD q dGDirEntry).Inode ≠ (i : Int)) → inn d l i j k s = s
  | 0, j, s, _, _ => rfl
  | k + 1, j, s, h, hno => by
    have e : ((l.getD j dGDirEntry).Inode == (i : Int)) = false := by simpa using hno j (Nat.le_refl _) (by omega)
    simp only [inn, e, cond_false]
    exact inn_none d l i k (j + 1) s (by omega) (fun q h1 h2 => hno q (by omega) h2)
theorem inn_some (d : GDisk) (l : Dir) (hs : Srt l) (hind : ∀ a ∈ l, ∀ b ∈ l, a.Inode = b.Inode → a = b) (i q : Nat) (hq : q < l.length) (hqi : (l.getD q dGDirEntry).Inode = (i : Int)) : ∀ (k j : Nat) (s : List GInode × Dir), j + k = l.length → j ≤ q →
    inn d l i j k s = (s.1 ++ [d.Inodes.getD i dGInode], s.2.set q ⟨(s.2.getD q dGDirEntry).Name, (s.1.length : Int)⟩)
  | 0, j, s, h, hj => by omega
  | k + 1, j, s, h, hj => by
    have hu : ∀ p, p < l.length → (l.getD p dGDirEntry).Inode = (i : Int) → p = q := fun p hp hpi => srt_inj hs hp hq (hind _ (getD_mem hp) _ (getD_mem hq) (hpi.trans hqi.symm))
    by_cases e : j = q
    · subst e
      have e1 : ((l.getD j dGDirEntry).Inode == (i : Int)) = true := by simpa using hqi
      simp only [inn, e1, cond_true]
      exact inn_none d l i k (j + 1) _ (by omega) (fun p h1 h2 h3 => by have := hu p h2 h3; omega)
    · have e1 : ((l.getD j dGDirEntry).Inode == (i : Int)) = false := by
        simp only [beq_eq_false_iff_ne, ne_eq]
        intro h3; exact e (hu j (by omega) h3)
      simp only [inn, e1, cond_false]
      exact inn_some d l hs hind i q hq hqi k (j + 1) s (by omega) (by omega)
/-- The directory after the inodes ahead of number i. -/
def dst (l : Dir) (i : Nat) : Dir := l.map fun e => if e.Inode < (i : Int) then rnkE l e else e
theorem dst_get {l : Dir} {i q : Nat} (hq : q < l.length) : (dst l i).getD q dGDirEntry = (if (l.getD q dGDirEntry).Inode < (i : Int) then rnkE l (l.getD q dGDirEntry) else l.getD q dGDirEntry) := by
  simp [dst, List.getD, List.getElem?_eq_getElem hq]
theorem inn_dst (d : GDisk) (l : Dir) (hs : Srt l) (hind : ∀ a ∈ l, ∀ b ∈ l, a.Inode = b.Inode → a = b) (i : Nat) (acc : List GInode) (ha : acc.length = rnk l i) :
    inn d l i 0 l.length (acc, dst l i) = (acc ++ acI d l i 1, dst l (i + 1)) ∧ (acc ++ acI d l i 1).length = rnk l (i + 1) := by
  cases hu : usedE l (i : Int) with
  | false =>
    have hno : ∀ q, 0 ≤ q → q < l.length → (l.getD q dGDirEntry).Inode ≠ (i : Int) := fun q _ hq hh => by
      rw [usedE_iff.2 ⟨_, getD_mem hq, hh⟩] at hu; cases hu
    rw [inn_none d l i l.length 0 _ (by omega) hno]
    simp only [acI, hu, cond_false, List.append_nil, rnk]
    refine ⟨?_, ha⟩
    congr 1
    refine List.map_congr_left fun e he => ?_
    have hne : e.Inode ≠ (i : Int) := fun hh => by rw [usedE_iff.2 ⟨e, he, hh⟩] at hu; cases hu
    by_cases c : e.Inode < (i : Int)
    · rw [if_pos c, if_pos (by omega)]
    · rw [if_neg c, if_neg (by omega)]
  | true =>
    obtain ⟨e, he, hei⟩ := usedE_iff.1 hu
    obtain ⟨q, hq, hqe⟩ := List.getElem_of_mem he
    have hqg : l.getD q dGDirEntry = e := by simp [List.getD, List.getElem?_eq_getElem hq, hqe]
    rw [inn_some d l hs hind i q hq (by rw [hqg]; exact hei) l.length 0 _ (by omega) (by omega)]
    simp only [acI, hu, cond_true, rnk, List.length_append, List.length_singleton]
    refine ⟨?_, by omega⟩
    congr 1
    apply List.ext_getElem?
    intro p
    rw [List.getElem?_set]
    by_cases hp : q = p
    · subst hp
      rw [if_pos rfl, if_pos (by simpa [dst] using hq)]
      simp only [dst, List.getElem?_map, List.getElem?_eq_getElem hq, Option.map_some, hqe]
      have hd : (dst l i).getD q dGDirEntry = e := by rw [dst_get hq, hqg, if_neg (by omega)]
      rw [show (List.map (fun e => if e.Inode < (i : Int) then rnkE l e else e) l) = dst l i from rfl, hd]
      rw [if_pos (by omega)]
      simp only [rnkE, hei, ha]
      rfl
    · rw [if_neg hp]
      simp only [dst, List.getElem?_map]
      cases hlp : l[p]? with
      | none => rfl
      | some e' =>
        have hpl := (List.getElem?_eq_some_iff.1 hlp).1
        have hpg : l.getD p dGDirEntry = e' := by simp [List.getD, hlp]
        have hne : e'.Inode ≠ (i : Int) := fun hh => hp (srt_inj hs hq hpl (by rw [hqg, hpg]; exact hind e he e' (List.mem_of_getElem? hlp) (by omega)))
        simp only [Option.map_some]
        by_cases c : e'.Inode < (i : Int)
        · rw [if_pos c, if_pos (by omega)]
        · rw [if_neg c, if_neg (by omega)]
theorem acI_add (d : GDisk) (l : Dir) : ∀ (k i : Nat), acI d l i (k + 1) = acI d l i 1 ++ acI d l (i + 1) k := fun k i => by
  simp only [acI]; cases usedE l (i : Int) <;> simp
theorem lw_of {d : GDisk} (hw : wfGDisk d) : Lw d := by
  have h := hw.2.2.2.1
  simp only [wfInt, Lit.wf, Bool.and_eq_true, decide_eq_true_eq] at h
  exact ⟨h.1, h.2⟩
theorem bg_of {d : GDisk} (hb : Bd 200 d) (h2 : d.Inodes.length ≤ 40) (h3 : d.Durable.length ≤ 40) (h4 : d.Pending.length ≤ 40) : Bg 80 d := ⟨hb.dn, hb.pn, by omega, by omega⟩

end Go.Proofs.YtkignmhjbjgkoaaGreat

/- Plain laws, 11: what is valid stays valid; DiskValid, DiskReplaces. -/
set_option linter.unusedVariables false
set_option linter.unusedSimpArgs false
namespace Go.Proofs.YtkignmhjbjgkoaaGreat
open Go Go.AM

theorem mem_take {D : Dir} {i : Nat} {e : GDirEntry} (h : e ∈ D.take i) : ∃ p, p < i ∧ p < D.length ∧ D.getD p dGDirEntry = e := by
  obtain ⟨p, hp, he⟩ := List.getElem_of_mem h
  have hp' : p < i ∧ p < D.length := by rw [List.length_take] at hp; omega
  refine ⟨p, hp'.1, hp'.2, ?_⟩
  rw [List.getElem_take] at he
  simp [List.getD, List.getElem?_eq_getElem hp'.2, he]
theorem srt_get {D : Dir} (h : Srt D) {a b : Nat} (hab : a < b) (hb : b < D.length) : ky (D.getD a dGDirEntry).Name < ky (D.getD b dGDirEntry).Name := by
  have := List.pairwise_iff_getElem.1 h a b (by omega) hb hab
  simpa [List.getD, List.getElem?_eq_getElem hb, List.getElem?_eq_getElem (show a < D.length by omega)] using this
theorem durB_of {N : Nat} {D : Dir} (hn : ∀ e ∈ D, isNm e.Name = true) (hs : Srt D) (hr : ∀ e ∈ D, 0 ≤ e.Inode ∧ e.Inode < N) (hi : ∀ p q, p < q → q < D.length → (D.getD p dGDirEntry).Inode ≠ (D.getD q dGDirEntry).Inode) : ∀ (k i : Nat), i + k = D.length → durB N D i k = true
  | 0, i, _ => rfl
  | k + 1, i, h => by
    have hm := getD_mem (show i < D.length by omega)
    have ih := durB_of hn hs hr hi k (i + 1) (by omega)
    have hu : usedE (D.take i) (D.getD i dGDirEntry).Inode = false := by
      cases hu : usedE (D.take i) (D.getD i dGDirEntry).Inode with
      | false => rfl
      | true =>
        obtain ⟨e, he, hh⟩ := usedE_iff.1 hu
        obtain ⟨p, p1, p2, rfl⟩ := mem_take he
        exact absurd hh (hi p i p1 (by omega))
    obtain ⟨r1, r2⟩ := hr _ hm
    have hlast : (decide (i = 0) || decide (ky (D.getD (i - 1) dGDirEntry).Name < ky (D.getD i dGDirEntry).Name)) = true := by
      by_cases h0 : i = 0
      · simp [h0]
      · have := srt_get hs (show i - 1 < i by omega) (show i < D.length by omega)
        rw [decide_eq_true this, Bool.or_true]
    simp only [durB, okD, ih, hn _ hm, hlast, r1, r2, hu, decide_true, Bool.and_true, Bool.not_false]
theorem durA_of {d : GDisk} (hn : ∀ e ∈ d.Durable, isNm e.Name = true) (hs : Srt d.Durable) (hr : ∀ e ∈ d.Durable, 0 ≤ e.Inode ∧ e.Inode < d.Inodes.length) (hi : ∀ p q, p < q → q < d.Durable.length → (d.Durable.getD p dGDirEntry).Inode ≠ (d.Durable.getD q dGDirEntry).Inode) : durA d = true :=
  durB_of hn hs hr hi _ _ (by omega)
theorem durB_succ {N : Nat} {D : Dir} : ∀ (k i : Nat), durB N D i k = true → durB (N + 1) D i k = true
  | 0, _, _ => rfl
  | k + 1, i, h => by
    simp only [durB, Bool.and_eq_true] at h ⊢
    refine ⟨?_, durB_succ k (i + 1) h.2⟩
    have h1 := h.1
    simp only [okD, Bool.and_eq_true, decide_eq_true_eq] at h1 ⊢
    obtain ⟨a, b, c, e, f⟩ := h1
    exact ⟨a, b, c, by omega, f⟩
theorem ap_succ {N : Int} {l : Dir} {x : GDirOp} (h : (ap N l x).2 = true) : ap (N + 1) l x = ap N l x := by
  unfold ap at h ⊢
  cases hk : x.Kind == 1 with
  | false => rfl
  | true =>
    rw [hk] at h
    simp only [cond_true, Bool.and_eq_true, decide_eq_true_eq] at h ⊢
    obtain ⟨_, _, _, h4, _⟩ := h
    have h5 : x.Inode < N + 1 := by omega
    simp only [h4, h5, decide_true]
theorem aft_succ {N : Int} : ∀ {ops : List GDirOp} {l : Dir}, (aft N ops l).2 = true → aft (N + 1) ops l = aft N ops l
  | [], l, _ => rfl
  | x :: ops, l, h => by
    simp only [aft] at h ⊢
    cases ha : (ap N l x).2 with
    | false => rw [ha] at h; cases h
    | true =>
      rw [ha] at h
      simp only [cond_true] at h
      rw [ap_succ ha, ha]
      simp only [cond_true]
      exact aft_succ h
theorem aft_app {N : Int} {x : GDirOp} : ∀ {ops : List GDirOp} {l : Dir}, (aft N ops l).2 = true → aft N (ops ++ [x]) l = ap N (aft N ops l).1 x
  | [], l, _ => by
    simp only [List.nil_append, aft]
    cases ha : (ap N l x).2 <;> simp only [cond_true, cond_false] <;> rw [← ha]
  | y :: ops, l, h => by
    simp only [List.cons_append, aft] at h ⊢
    cases ha : (ap N l y).2 with
    | false => rw [ha] at h; cases h
    | true =>
      rw [ha] at h
      simp only [cond_true] at h ⊢
      exact aft_app h

theorem valid_of {d : GDisk} (h1 : d.Inodes.length ≤ 1000) (h2 : d.Pending.length ≤ 1000) (h3 : -1 ≤ d.Left) (h4 : d.Inodes.all okI = true) (h5 : durA d = true) (h6 : (cur d).2 = true) : valid d = true := by
  simp only [valid, h1, h2, h3, h4, h5, h6, decide_true, Bool.and_true]
theorem left_ok {d : GDisk} (h0 : d.Left ≠ 0) (h3 : -1 ≤ d.Left) : -1 ≤ (if d.Left > 0 then d.Left - 1 else d.Left) := by split <;> omega
theorem valid_prf {d next : GDisk} (h : valid d = true) (hn : ∀ L, -1 ≤ L → valid ⟨next.Inodes, next.Durable, next.Pending, L⟩ = true) : valid (prf d next).1 = true := by
  unfold prf
  split
  · exact h
  · rename_i h0
    exact hn _ (left_ok h0 (valid_il h).2.2.1)
theorem valid_chg {d : GDisk} {i : Nat} {x : GInode} (h : valid d = true) (hx : okI x = true) (L : Int) (hL : -1 ≤ L) : valid ⟨d.Inodes.set i x, d.Durable, d.Pending, L⟩ = true := by
  obtain ⟨h1, h2, h3, h4, h5, h6⟩ := valid_il h
  refine valid_of (by simpa using h1) h2 hL ?_ ?_ ?_
  · refine List.all_eq_true.2 fun y hy => ?_
    rcases List.mem_or_eq_of_mem_set hy with hy | hy
    · exact List.all_eq_true.1 h4 y hy
    · rw [hy]; exact hx
  · unfold durA at h5 ⊢; simpa using h5
  · unfold cur at h6 ⊢; simpa using h6
theorem valid_pend {d : GDisk} {x : GDirOp} (h : valid d = true) (hp : d.Pending.length < 1000) (hx : (ap (d.Inodes.length : Int) (cur d).1 x).2 = true) (L : Int) (hL : -1 ≤ L) : valid ⟨d.Inodes, d.Durable, d.Pending ++ [x], L⟩ = true := by
  obtain ⟨h1, h2, h3, h4, h5, h6⟩ := valid_il h
  refine valid_of h1 (by simp; omega) hL h4 h5 ?_
  show (aft (d.Inodes.length : Int) (d.Pending ++ [x]) d.Durable).2 = true
  rw [aft_app h6]; exact hx
theorem valid_new {d : GDisk} {x : GDirOp} (h : valid d = true) (hI : d.Inodes.length < 1000) (hp : d.Pending.length < 1000) (hx : (ap ((d.Inodes.length : Int) + 1) (cur d).1 x).2 = true) (L : Int) (hL : -1 ≤ L) : valid ⟨d.Inodes ++ [⟨bE, 0⟩], d.Durable, d.Pending ++ [x], L⟩ = true := by
  obtain ⟨h1, h2, h3, h4, h5, h6⟩ := valid_il h
  refine valid_of (by simp; omega) (by simp; omega) hL ?_ ?_ ?_
  · rw [List.all_append, h4]; rfl
  · show durB (d.Inodes ++ [(⟨bE, 0⟩ : GInode)]).length d.Durable 0 d.Durable.length = true
    rw [List.length_append]; exact durB_succ _ _ h5
  · show (aft ((d.Inodes ++ [(⟨bE, 0⟩ : GInode)]).length : Int) (d.Pending ++ [x]) d.Durable).2 = true
    have e : ((d.Inodes ++ [(⟨bE, 0⟩ : GInode)]).length : Int) = (d.Inodes.length : Int) + 1 := by simp
    have h7 := aft_succ h6
    rw [e, aft_app (by rw [h7]; exact h6), h7]; exact hx

theorem rnk_lt {l : Dir} {i : Nat} (h : usedE l (i : Int) = true) : rnk l i < rnk l (i + 1) := by simp only [rnk, h, cond_true]; omega
theorem rnk_mono (l : Dir) {i : Nat} : ∀ k, rnk l i ≤ rnk l (i + k)
  | 0 => Nat.le_refl _
  | k + 1 => by
    have := rnk_mono l (i := i) k
    have e : i + (k + 1) = i + k + 1 := by omega
    rw [e]; simp only [rnk]
    cases usedE l ((i + k : Nat) : Int) <;> simp only [cond_true, cond_false] <;> omega
theorem rnk_inj {l : Dir} {i j : Nat} (hij : i < j) (hi : usedE l (i : Int) = true) : rnk l i < rnk l j := by
  have h1 := rnk_lt hi
  obtain ⟨k, rfl⟩ : ∃ k, j = i + 1 + k := ⟨j - (i + 1), by omega⟩
  have := rnk_mono l (i := i + 1) k
  omega
theorem acI_sub (d : GDisk) (l : Dir) : ∀ (k i : Nat), i + k ≤ d.Inodes.length → ∀ x ∈ acI d l i k, x ∈ d.Inodes
  | 0, i, _, x, hx => by simp [acI] at hx
  | k + 1, i, h, x, hx => by
    have ih := acI_sub d l k (i + 1) (by omega) x
    simp only [acI] at hx
    cases hu : usedE l (i : Int) with
    | false => rw [hu] at hx; exact ih hx
    | true =>
      rw [hu] at hx
      rcases List.mem_cons.1 hx with rfl | hx
      · have := List.drop_subset i d.Inodes; rw [getD_drop (d := dGInode) (show i < d.Inodes.length by omega)] at this; exact this (by simp)
      · exact ih hx
theorem valid_sync {d : GDisk} (h : valid d = true) (hD : d.Durable.length ≤ 1000000000) (L : Int) (hL : -1 ≤ L) : valid ⟨acI d (cur d).1 0 d.Inodes.length, (cur d).1.map (rnkE (cur d).1), [], L⟩ = true := by
  obtain ⟨h1, h2, h3, h4, h5, h6⟩ := valid_il h
  obtain ⟨f, t, hR⟩ := cur_rd h hD
  have hal := acI_len d (cur d).1 d.Inodes.length 0
  simp only [rnk, Nat.zero_add, Nat.add_zero] at hal
  have hrk := rnk_le (cur d).1 d.Inodes.length
  have hused : ∀ e ∈ (cur d).1, usedE (cur d).1 ((e.Inode.toNat : Nat) : Int) = true := fun e he => usedE_iff.2 ⟨e, he, by have := (hR.rng e he).1; omega⟩
  refine valid_of (by simp only; omega) (by simp) hL ?_ ?_ rfl
  · exact List.all_eq_true.2 fun x hx => List.all_eq_true.1 h4 x (acI_sub d _ _ _ (by omega) x hx)
  · refine durA_of (fun e he => ?_) ?_ (fun e he => ?_) (fun p q hpq hq => ?_)
    · obtain ⟨e0, he0, rfl⟩ := List.mem_map.1 he
      exact hR.nms e0 he0
    · exact List.pairwise_map.2 hR.srt
    · obtain ⟨e0, he0, rfl⟩ := List.mem_map.1 he
      obtain ⟨r1, r2⟩ := hR.rng e0 he0
      have := rnk_inj (show e0.Inode.toNat < d.Inodes.length by omega) (hused e0 he0)
      simp only [rnkE]
      constructor
      · omega
      · omega
    · simp only [List.length_map] at hq
      have g : ∀ {c : Nat}, c < (cur d).1.length → ((cur d).1.map (rnkE (cur d).1)).getD c dGDirEntry = rnkE (cur d).1 ((cur d).1.getD c dGDirEntry) := fun hc => by simp [List.getD, List.getElem?_eq_getElem hc]
      have hmp := getD_mem (show p < (cur d).1.length by omega)
      have hmq := getD_mem hq
      show (((cur d).1.map (rnkE (cur d).1)).getD p dGDirEntry).Inode ≠ (((cur d).1.map (rnkE (cur d).1)).getD q dGDirEntry).Inode
      rw [g (by omega), g hq]
      simp only [rnkE]
      intro hh
      have hne : ((cur d).1.getD p dGDirEntry).Inode ≠ ((cur d).1.getD q dGDirEntry).Inode := fun e => by
        have := srt_inj hR.srt (show p < (cur d).1.length by omega) hq (hR.ind _ hmp _ hmq e)
        omega
      have rp := (hR.rng _ hmp).1
      have rq := (hR.rng _ hmq).1
      rcases Nat.lt_trichotomy ((cur d).1.getD p dGDirEntry).Inode.toNat ((cur d).1.getD q dGDirEntry).Inode.toNat with c | c | c
      · have := rnk_inj c (hused _ hmp); omega
      · omega
      · have := rnk_inj c (hused _ hmq); omega

theorem fnd_lk {d : GDisk} {name : ByteArray} (h : (fnd d name).2 = 0) : valid d = true ∧ lkE name (cur d).1 = some (fnd d name).1 := by
  unfold fnd at *
  cases hv : valid d with
  | false => rw [hv] at h; simp at h
  | true =>
    rw [hv] at h
    simp only [cond_true] at *
    cases hl : lkE name (cur d).1 with
    | none => rw [hl] at h; simp at h
    | some i => exact ⟨trivial, rfl⟩
theorem extract_size (s : ByteArray) (n : Nat) (h : n ≤ s.size) : (ByteArray.extract s 0 n).size = n := by
  rw [ByteArray.size_extract]; omega

/-! ### After a loss of power -/
theorem crI_get (d : GDisk) (picks : List Int) (l : Dir) : ∀ (k i j : Nat), j < k → (crI d picks l i k).getD j dGInode = ⟨ByteArray.extract (d.Inodes.getD (l.getD (i + j) dGDirEntry).Inode.toNat dGInode).Data 0 (kept d picks l (i + j)).toNat, kept d picks l (i + j)⟩
  | 0, _, _, h => by omega
  | k + 1, i, 0, _ => by simp [crI, List.getD]
  | k + 1, i, j + 1, h => by
    have := crI_get d picks l k (i + 1) j (by omega)
    rw [show i + (j + 1) = i + 1 + j by omega, ← this]
    simp [crI, List.getD]
theorem crD_get (l : Dir) : ∀ (k i j : Nat), j < k → (crD l i k).getD j dGDirEntry = ⟨(l.getD (i + j) dGDirEntry).Name, ((i + j : Nat) : Int)⟩
  | 0, _, _, h => by omega
  | k + 1, i, 0, _ => by simp [crD, List.getD]
  | k + 1, i, j + 1, h => by
    have := crD_get l k (i + 1) j (by omega)
    rw [show i + (j + 1) = i + 1 + j by omega, ← this]
    simp [crD, List.getD]
theorem get_mem {α : Type} {l : List α} {x : α} (d : α) (h : x ∈ l) : ∃ j, j < l.length ∧ l.getD j d = x := by
  obtain ⟨j, hj, he⟩ := List.getElem_of_mem h
  exact ⟨j, hj, by simp [List.getD, List.getElem?_eq_getElem hj, he]⟩
theorem crDir_Rd {d : GDisk} (picks : List Int) (hv : valid d = true) (hD : d.Durable.length ≤ 1000000000) : ∃ f t, Rd d.Inodes.length f t (crDir d picks) := by
  obtain ⟨i1, i2, i3, i4, i5, i6⟩ := valid_il hv
  obtain ⟨f, t, e1, hR⟩ := crDir_rd picks hv hD (d.Durable.length + 80) (by omega)
  have haft := aft_take (d.Inodes.length : Int) d.Pending d.Durable (crCount d picks) i6
  obtain ⟨f', t', _, hR'⟩ := crash_l0 2 d d.Inodes.length (d.Inodes.length, true, f, t) rfl (0, [], 0) [] [] (by omega) (d.Pending.take (crCount d picks)) (by rw [List.length_take]; omega) (d.Pending.take (crCount d picks)).length 0 ((d.Pending.take (crCount d picks)).length + 1) f t d.Durable (by omega) hR haft (by omega)
  rw [List.drop_zero] at hR'
  exact ⟨f', t', hR'⟩
theorem crF_valid {d : GDisk} (picks : List Int) (hv : valid d = true) (hD : d.Durable.length ≤ 1000000000) : valid (crF d picks) = true ∧ (crF d picks).Left = -1 ∧ (crF d picks).Pending = [] := by
  obtain ⟨i1, i2, i3, i4, i5, i6⟩ := valid_il hv
  obtain ⟨f, t, hR⟩ := crDir_Rd picks hv hD
  have hlb := hR.bound
  have hcf : crF d picks = ⟨crI d picks (crDir d picks) 0 (crDir d picks).length, crD (crDir d picks) 0 (crDir d picks).length, [], -1⟩ := by simp only [crF, hv, cond_true]
  have hgI := crI_len d picks (crDir d picks) (crDir d picks).length 0
  have hgD := crD_len (crDir d picks) (crDir d picks).length 0
  rw [hcf]
  refine ⟨valid_of (by simp only [hgI]; omega) (by simp) (by simp) ?_ ?_ rfl, rfl, rfl⟩
  · refine List.all_eq_true.2 fun x hx => ?_
    obtain ⟨j, hj, rfl⟩ := get_mem dGInode hx
    rw [hgI] at hj
    rw [crI_get d picks _ _ 0 j hj, Nat.zero_add]
    have hm := getD_mem hj
    obtain ⟨r1, r2⟩ := hR.rng _ hm
    have hok := inode_ok i4 r1 r2
    obtain ⟨o1, o2, o3⟩ := okI_spec hok
    obtain ⟨q1, q2⟩ := kept_in (picks := picks) hok
    have hsz := extract_size (d.Inodes.getD ((crDir d picks).getD j dGDirEntry).Inode.toNat dGInode).Data (kept d picks (crDir d picks) j).toNat (by omega)
    simp only [okI, hsz, show (kept d picks (crDir d picks) j).toNat ≤ 1048576 by omega, show 0 ≤ kept d picks (crDir d picks) j by omega, show kept d picks (crDir d picks) j ≤ (((kept d picks (crDir d picks) j).toNat : Nat) : Int) by omega, decide_true, Bool.and_true]
  · have hget : ∀ j, j < (crDir d picks).length → (crD (crDir d picks) 0 (crDir d picks).length).getD j dGDirEntry = ⟨((crDir d picks).getD j dGDirEntry).Name, (j : Int)⟩ := fun j hj => by rw [crD_get _ _ 0 j hj, Nat.zero_add]
    refine durA_of (fun e he => ?_) ?_ (fun e he => ?_) (fun p q hpq hq => ?_)
    · obtain ⟨j, hj, rfl⟩ := get_mem dGDirEntry he
      rw [hgD] at hj; rw [hget j hj]
      have := hR.nms _ (getD_mem hj); exact this
    · refine List.pairwise_iff_getElem.2 fun a b ha hb hab => ?_
      have h1 := hget a (by rw [hgD] at ha; exact ha)
      have h2 := hget b (by rw [hgD] at hb; exact hb)
      have g1 : (crD (crDir d picks) 0 (crDir d picks).length)[a] = ⟨((crDir d picks).getD a dGDirEntry).Name, (a : Int)⟩ := by rw [← h1]; simp [List.getD, List.getElem?_eq_getElem ha]
      have g2 : (crD (crDir d picks) 0 (crDir d picks).length)[b] = ⟨((crDir d picks).getD b dGDirEntry).Name, (b : Int)⟩ := by rw [← h2]; simp [List.getD, List.getElem?_eq_getElem hb]
      show ky ((crD (crDir d picks) 0 (crDir d picks).length)[a]).Name < ky ((crD (crDir d picks) 0 (crDir d picks).length)[b]).Name
      rw [g1, g2]
      exact srt_get hR.srt hab (by rw [hgD] at hb; exact hb)
    · obtain ⟨j, hj, rfl⟩ := get_mem dGDirEntry he
      rw [hgD] at hj; rw [hget j hj]
      simp only [hgI]; omega
    · simp only [hgD] at hq
      show ((crD (crDir d picks) 0 (crDir d picks).length).getD p dGDirEntry).Inode ≠ ((crD (crDir d picks) 0 (crDir d picks).length).getD q dGDirEntry).Inode
      rw [hget p (by omega), hget q hq]
      simp only; omega
theorem extract_all (s : ByteArray) (n : Nat) (h : s.size ≤ n) : ByteArray.extract s 0 n = s := by
  rw [ByteArray.ext_iff, ByteArray.data_extract]
  have : s.data.size ≤ n := h
  exact Array.extract_eq_self_of_le this
end Go.Proofs.YtkignmhjbjgkoaaGreat
