/- The contract of slices.Sorted over the keys of a map, and: the machine's program is the given one. -/
import Derived.Test.YtkignmhjbjgkoaaGreatPg
import Derived.Test.YtkignmhjbjgkoaaGreatSp3
import Derived.Test.YtkignmhjbjgkoaaGreatIter
import Derived.Test.YtkignmhjbjgkoaaGreatBld
import Derived.Test.YtkignmhjbjgkoaaGreatBldS
import Derived.Test.YtkignmhjbjgkoaaGreatAmW
set_option linter.unusedVariables false
set_option linter.unusedSimpArgs false
set_option maxRecDepth 100000
namespace Go.Proofs.YtkignmhjbjgkoaaGreat
open Go Go.AM Go.RowKit Go.Maps Go.Sort Go.Shelf

set_option maxHeartbeats 1000000 in
theorem sorted_at {H : Type} (q b nn : Nat) (D0 : DataW H) (R : Value → Option (DataW H × List MemPlace)) (W : World) (hq : q < W.heap.size) (hc : W.cell? ⟨q, 0, none⟩ = some (.map (some b))) (hown : W.ownsMap Tryz.prog 9 R b nn D0) (hmax : Maps.size D0 ≤ maxLen) (hbytes : Maps.size D0 * 16 ≤ 140737488355328) :
    CallsIn Fence.wide 5 Tryz.prog 65 #[.func (.func 91) #[] #[.pointer (some ⟨q, 0, none⟩)]] W fun e w' => ∃ (v : Value) (ss : List (List UInt8)), e = .returned v ∧ ss.Perm (strKeys D0) ∧
      w'.ownsRow W.heap.size 9 1 v ss.length ((ss.mergeSort (fun x y => decide (x ≤ y))).map encStr) ∧ (v = .slice none 0 0 ↔ ss = []) ∧ Below W.heap.size W w' := by
  have hseq : SeqGives Fence.wide 2 Tryz.prog 91 #[.pointer (some ⟨q, 0, none⟩)] encStr (fun ss => ss.Perm (strKeys D0)) (Maps.size D0) W :=
    AnyZ.keys_gives (ρ := Tryz.keys86_ren) { Tryz.keys86 with } Fence.wide _ trivial rfl (by omega) q b nn D0 _ hq hc hown
  exact AnyZ.sorted_in Tryz.sorted85 Fence.wide 5 trivial trivial trivial trivial rfl (by omega) (Tryz.sorts85 _) (enters_of Tryz.func90 (by kernel_rfl) rfl) 91 #[.pointer (some ⟨q, 0, none⟩)] trivial (enters_of Tryz.func91 (by kernel_rfl) rfl) _ _ hmax hbytes _ hseq

theorem perm_insert {H : Type} (x : Lit × DataW H) : ∀ l, (DataW.insert x l).Perm (x :: l)
  | [] => List.Perm.refl _
  | y :: r => by
    unfold DataW.insert
    split
    · exact List.Perm.refl _
    · exact ((perm_insert x r).cons y).trans (List.Perm.swap x y r)
theorem perm_sorted {H : Type} : ∀ l : List (Lit × DataW H), (l.foldr DataW.insert []).Perm l
  | [] => List.Perm.refl _
  | x :: l => (perm_insert x _).trans ((perm_sorted l).cons x)

/-- What a map of strings reads as. -/
def Rany (v : Value) : Option (DataW Unit × List MemPlace) := some (.nil, [])
theorem ky_enc (s : ByteArray) : encStr (ky s) = .string s := by simp [encStr, ky]

theorem map_reads {w : World} {ω : Nat → Nat → Owner} {η : Nat → Nat} {N id : Nat} {L : List (ByteArray × Int)} (h : RepObj w (fun b o => ω b o = .imm) ω η N id (.map (entL AVal.str (AVal.int .i64) L))) (hs : ∀ p ∈ L, p.1.size ≤ 9223372036854775807) (hl : L.length * 16 ≤ 140737488355328) :
    ∃ D0 : DataW Unit, w.ownsMap Tryz.prog 9 Rany (η id) L.length D0 ∧ (strKeys D0).Perm (L.map fun p => ky p.1) ∧ Maps.size D0 = L.length ∧ (L.map (·.1)).Nodup := by
  obtain ⟨_, ents, clock, h2, ⟨h3, hst⟩, h4⟩ := h
  have hlen : ents.size = L.length := by rw [h3]; simp [entL]
  have hkey : ∀ (i : Nat) e, ents[i]? = some e → ∃ p, L[i]? = some p ∧ e.key = .string p.1 := fun i e he => by
    have hi : i < L.length := by rw [← hlen]; exact alt_of_some he
    have := (h4 i (AVal.str L[i].1) (AVal.int .i64 L[i].2) e (by simp [entL, List.getElem?_eq_getElem hi]) he).1
    refine ⟨L[i], List.getElem?_eq_getElem hi, ?_⟩
    generalize e.key = q at this
    cases this; rfl
  have hk9 : Tryz.prog.underlying 9 = some .string := by kernel_rfl
  have hrd : ∀ (i : Nat) e p, ents[i]? = some e → L[i]? = some p → WideElems.rd Tryz.prog 9 Rany e = some (.string (ky p.1), .nil) := fun i e p he hp => by
    obtain ⟨p', hp', hk⟩ := hkey i e he
    rw [hp] at hp'; cases hp'
    have hsz := hs p (List.mem_of_getElem? hp)
    unfold WideElems.rd
    have : keyOf Tryz.prog 9 e.key = some (.string (ky p.1)) := by
      rw [hk]; simp only [keyOf, hk9, mapKey]
      rw [if_pos (by unfold maxLen; omega)]
    rw [this]; rfl
  have hmap : ents.toList.map (WideElems.rg Tryz.prog 9 Rany) = L.map fun p => (Lit.string (ky p.1), DataW.nil) := by
    apply List.ext_getElem?; intro i
    simp only [List.getElem?_map, Array.getElem?_toList]
    cases he : ents[i]? with
    | none =>
      have : L[i]? = none := List.getElem?_eq_none (by rw [← hlen]; rw [Array.getElem?_eq_none_iff] at he; exact he)
      rw [this]; rfl
    | some e =>
      obtain ⟨p, hp, _⟩ := hkey i e he
      rw [hp]
      simp only [Option.map_some, Option.some.injEq]
      exact WideElems.rg_of (hrd i e p he hp)
  refine ⟨.map ((ents.toList.map (WideElems.rg Tryz.prog 9 Rany)).foldr DataW.insert []), ⟨ents, clock, h2, ⟨by rw [hlen]; unfold maxLen; omega, hst, fun x hx => ?_⟩, by omega, rfl⟩, ?_, ?_, ?_⟩
  · obtain ⟨i, hi⟩ := List.getElem?_of_mem hx
    have he : ents[i]? = some x := by simpa using hi
    obtain ⟨p, hp, _⟩ := hkey i x he
    exact ⟨_, hrd i x p he hp⟩
  · rw [hmap]
    show List.Perm (((L.map fun p => (Lit.string (ky p.1), DataW.nil)).foldr DataW.insert []).map fun p => strOf p.1) _
    refine ((perm_sorted _).map _).trans ?_
    rw [List.map_map]
    exact List.Perm.of_eq (List.map_congr_left fun p _ => rfl)
  · rw [hmap]
    show ((L.map fun p => (Lit.string (ky p.1), DataW.nil)).foldr DataW.insert [] : List (Lit × DataW Unit)).length = _
    rw [(perm_sorted _).length_eq, List.length_map]
  · have hnd := hst.2.2
    have : ents.toList.map (·.key) = (L.map (·.1)).map Value.string := by
      apply List.ext_getElem?; intro i
      simp only [List.getElem?_map, Array.getElem?_toList]
      cases he : ents[i]? with
      | none =>
        have : L[i]? = none := List.getElem?_eq_none (by rw [← hlen]; rw [Array.getElem?_eq_none_iff] at he; exact he)
        rw [this]; rfl
      | some e =>
        obtain ⟨p, hp, hk⟩ := hkey i e he
        rw [hp]; simp [hk]
    rw [this] at hnd
    exact List.Pairwise.imp (fun hne e => hne (by rw [e])) (List.pairwise_map.1 hnd)

theorem sorts_alike {L : List (ByteArray × Int)} {ss : List (List UInt8)} (hnd : (L.map (·.1)).Nodup) (hp : ss.Perm (L.map fun p => ky p.1)) : ss.mergeSort (fun x y => decide (x ≤ y)) = (isort (L.map (·.1))).map ky := by
  have tr : ∀ a b c : List UInt8, leB a b = true → leB b c = true → leB a c = true := fun a b c h1 h2 => by simp only [leB, decide_eq_true_eq] at *; exact List.le_trans h1 h2
  have to : ∀ a b : List UInt8, (leB a b || leB b a) = true := fun a b => by simp only [leB, Bool.or_eq_true, decide_eq_true_eq]; exact List.le_total a b
  refine List.Perm.eq_of_pairwise (le := fun a b => leB a b = true) (fun a b _ _ h1 h2 => ?_) (List.pairwise_mergeSort tr to ss) (List.pairwise_map.2 ((srt_isort _ hnd).imp fun {a b} h => ?_)) ?_
  · simp only [leB, decide_eq_true_eq] at h1 h2
    exact List.le_antisymm h1 h2
  · simp only [leB, decide_eq_true_eq]; exact List.not_lt.1 (ky_lt_asymm h)
  · refine (List.mergeSort_perm ss leB).trans (hp.trans ?_)
    have : (L.map fun p => ky p.1) = (L.map (·.1)).map ky := by rw [List.map_map]; rfl
    rw [this]
    exact ((perm_isort _).map ky).symm

theorem one_elem {a : Array Value} (h : a.size = 1) : a = #[a[0]] := by
  apply Array.ext
  · simp [h]
  · intro i h1 h2
    have : i = 0 := by omega
    subst this; rfl

theorem pre_grow {w w' : World} {ω ω' : Nat → Nat → Owner} {η : Nat → Nat} {H : List HObj} (hpre : Pre w ω η H) (hb : Below w.heap.size w w') (h1 : ∀ b o, b < w.heap.size → ω' b o = ω b o) (h2 : ∀ b o, w.heap.size ≤ b → ω' b o = .free ∨ (ω' b o = .imm ∧ b < w'.heap.size)) : Pre w' ω' η H := by
  have hcell : ∀ b o, b < w.heap.size → w'.cell? ⟨b, o, none⟩ = w.cell? ⟨b, o, none⟩ := fun b o h => hb.cell (p := ⟨b, o, none⟩) h
  have hsame : ∀ b o, ω b o ≠ .free → ω' b o = ω b o := fun b o h => h1 b o (hpre.live b o h)
  have hmono : ∀ {a : AVal} {v : Value}, Rep w (fun b o => ω b o = .imm) η H.length a v → Rep w' (fun b o => ω' b o = .imm) η H.length a v := fun hr => hr.mono (fun b o hi => by
    have hbl := hpre.live b o (by rw [hi]; simp)
    exact ⟨by rw [h1 b o hbl]; exact hi, hcell b o hbl⟩) (Nat.le_refl _) (fun _ _ => rfl)
  have hback : ∀ b o, ω' b o ≠ .free → ω' b o ≠ .imm → b < w.heap.size := fun b o h3 h4 => by
    rcases Nat.lt_or_ge b w.heap.size with h | h
    · exact h
    · rcases h2 b o h with h5 | ⟨h5, _⟩
      · exact absurd h5 h3
      · exact absurd h5 h4
  refine ⟨⟨fun id o ho => ?_, fun b o h => ?_, fun b o h3 h4 h5 => ?_, fun b o h => ?_, fun b o o' id h => ?_, fun b o id h => ?_, hpre.lock⟩, fun b o => ?_⟩
  · have hr := hpre.heap id o ho
    cases o with
    | arr cs =>
      refine ⟨fun o ho => ?_, fun o c hc => ?_⟩
      · have e := hr.1 o ho
        rw [hsame _ _ (by rw [e]; simp)]; exact e
      · obtain ⟨hp, x, hx, hxr, hoh⟩ := hr.2 o c hc
        have e := hr.1 o (List.getElem?_eq_some_iff.1 hc).1
        refine ⟨hp, x, by rw [hcell _ _ (hpre.live _ _ (by rw [e]; simp))]; exact hx, hmono hxr, fun e n f he => ?_⟩
        obtain ⟨ad, cap, h5, h6⟩ := hoh e n f he
        refine ⟨ad, cap, h5, fun j h7 h8 => ?_⟩
        obtain ⟨b, o', h9, h10⟩ := h6 j h7 h8
        exact ⟨b, o', h9, by rw [hsame _ _ (by rw [h10]; simp)]; exact h10⟩
    | dfr =>
      obtain ⟨e, h3⟩ := hr
      have hbl := hpre.live _ _ (show ω (η id) 0 ≠ .free by rw [e]; simp)
      exact ⟨by rw [h1 _ _ hbl]; exact e, (hb.block _ hbl).trans h3⟩
    | loop L ts s =>
      obtain ⟨e, fn, vs, D, h3, h4, h5⟩ := hr
      have hbl := hpre.live _ _ (show ω (η id) 0 ≠ .free by rw [e]; simp)
      exact ⟨by rw [h1 _ _ hbl]; exact e, fn, vs, D, (hb.block _ hbl).trans h3, h4, fun i a v ha hv => (h5 i a v ha hv).imp (fun e => e) hmono⟩
    | map es =>
      obtain ⟨e, ents, clock, h3, h4, h5⟩ := hr
      have hbl := hpre.live _ _ (show ω (η id) 0 ≠ .free by rw [e]; simp)
      refine ⟨by rw [h1 _ _ hbl]; exact e, ents, clock, (hb.block _ hbl).trans h3, h4, fun i k x e he hi => ?_⟩
      obtain ⟨a, b, c, d⟩ := h5 i k x e he hi
      exact ⟨hmono a, hmono b, c, d⟩
    | bld T e s =>
      obtain ⟨e1, h3, h4⟩ := hr
      have hbl := hpre.live _ _ (show ω (η id) 0 ≠ .free by rw [e1]; simp)
      refine ⟨fun o => by rw [h1 _ _ hbl]; exact e1 o, builder_same h3 (hb.block _ hbl) (fun q n cap hc => hb.block _ (hpre.live q 0 (by rw [h4 q n cap hc 0]; simp))), fun q n cap hc o => ?_⟩
      rw [hcell _ _ hbl] at hc
      have := h4 q n cap hc o
      rw [hsame _ _ (by rw [this]; simp)]; exact this
    | locked i =>
      have e : ω (η id) 0 = .h id := hr
      show ω' (η id) 0 = .h id
      rw [h1 _ _ (hpre.live _ _ (by rw [e]; simp))]; exact e
    | iter m es todo cur =>
      obtain ⟨e1, e2, e3, ents, clock, since, c0, seen, rs, h4, h5, h6, h7, h8, h9, h10, h11, h12, h13, h14⟩ := hr
      have hb1 := hpre.live _ _ (show ω (η id) 0 ≠ .free by rw [e1]; simp)
      have hb2 := hpre.live _ _ (show ω (η m) 0 ≠ .free by rw [e2]; simp)
      refine ⟨by rw [h1 _ _ hb1]; exact e1, by rw [h1 _ _ hb2]; exact e2, e3, ents, clock, since, c0, seen, rs, (hb.block _ hb2).trans h4, (hb.block _ hb1).trans h5, h6, h7, h8, fun i k x e he hi => ?_, h10, h11, h12, fun i k x e he hi => ?_, fun k x hc => ?_⟩
      · obtain ⟨a, b, c, d⟩ := h9 i k x e he hi
        exact ⟨hmono a, hmono b, c, d⟩
      · obtain ⟨a, b, c, d⟩ := h13 i k x e he hi
        exact ⟨hmono a, hmono b, c, d⟩
      · obtain ⟨e, s', h15, h16, h17, a, b, c, d⟩ := h14 k x hc
        exact ⟨e, s', h15, h16, h17, hmono a, hmono b, c, d⟩
  · rcases Nat.lt_or_ge b w.heap.size with h3 | h3
    · exact Nat.lt_of_lt_of_le h3 hb.size
    · rcases h2 b o h3 with h4 | ⟨_, h4⟩
      · exact absurd h4 h
      · exact h4
  · have hbl := hback b o h3 h4
    rw [h1 b o hbl] at h3 h4
    exact (hb.frozen (p := ⟨b, o, none⟩) hbl).trans (hpre.soft b o h3 h4 (fun j hj => h5 j (by rw [h1 b o hbl]; exact hj)))
  · have hbl : b < w.heap.size := by
      rcases h with ⟨s, i, h⟩ | ⟨id, i, h⟩ <;> exact hback b o (by rw [h]; simp) (by rw [h]; simp)
    rw [h1 b o hbl] at h
    rw [hcell b o hbl]
    exact hpre.tail b o h
  · have hbl := hback b o (by rw [h]; simp) (by rw [h]; simp)
    rw [h1 b o hbl] at h
    rw [h1 b o' hbl]
    exact hpre.sep b o o' id h
  · have hbl : b < w.heap.size := by
      rcases h with h | ⟨i, h⟩ <;> exact hback b o (by rw [h]; simp) (by rw [h]; simp)
    rw [h1 b o hbl] at h
    exact hpre.low b o id h
  · rcases Nat.lt_or_ge b w.heap.size with h3 | h3
    · rw [h1 b o h3]; exact hpre.none b o
    · rcases h2 b o h3 with h4 | ⟨h4, _⟩
      · exact .inl h4
      · exact .inr (.inl h4)

theorem ext_sound (f : FuncId) : Sound Tryz.checked.prog f (relSorted f) := by
  rintro args H r H' ⟨rfl, q, id, L, rfl, hq, hid, hl, hs, rfl, rfl⟩ vals w ω η hpre hargs
  obtain ⟨v, rfl⟩ : ∃ v, vals = #[v] := ⟨_, one_elem (by simpa using hargs.len)⟩
  have hrep := hargs.rep 0 _ v rfl rfl
  have hv : v = .func (.func 91) #[] #[.pointer (some ⟨η q, 0, none⟩)] := by
    cases hrep with
    | func f cs vs hlen hr =>
      have h1 : vs.size = 1 := by simpa using hlen.symm
      have h0 := hr 0 (.href q 0) vs[0] rfl (by rw [Array.getElem?_eq_getElem (by omega)])
      rw [one_elem h1]
      generalize vs[0] = z at h0
      cases h0; rfl
  subst hv
  have hQ := hpre.heap q _ hq
  obtain ⟨hQ1, hQ2⟩ := hQ
  obtain ⟨_, xm, hxm, hxr, _⟩ := hQ2 0 (.map id) rfl
  have hxe : xm = .map (some (η id)) := by cases hxr; rfl
  subst hxe
  have hqb : η q < w.heap.size := (cell_in hxm).2
  obtain ⟨D0, hown, hperm, hsz, hnd⟩ := map_reads (hpre.heap id _ hid) hs hl
  have hcall := (callsIn_wide (n := 5)).1 (sorted_at (η q) (η id) L.length D0 Rany w hqb hxm hown (by rw [hsz]; unfold maxLen; omega) (by rw [hsz]; exact hl))
  refine hcall.mono fun e w' ⟨v, ss, he, hss, hrow, hnil, hb⟩ => ?_
  have hsort := sorts_alike hnd (hss.trans hperm)
  have hlen : ss.length = (isort (L.map (·.1))).length := by
    have := congrArg List.length hsort
    rw [List.length_mergeSort, List.length_map] at this; exact this
  have hkeeps : Keeps w ω w' := ⟨hb.os, hb.tape, hb.output, hb.size, fun b h _ _ => hb.block b h, fun b o h _ _ => ⟨hb.cell (p := ⟨b, o, none⟩) h, hb.frozen (p := ⟨b, o, none⟩) h⟩⟩
  have hfree : ∀ b o, w.heap.size ≤ b → ω b o = .free := fun b o h => by
    by_cases e : ω b o = .free
    · exact e
    · have := hpre.live b o e; omega
  rcases hrow.2 with ⟨rfl, hz⟩ | ⟨g, cap, cur, rfl, hg, hgh, hn, hcap, hcs, hxs⟩
  · have he0 : isort (L.map (·.1)) = [] := List.eq_nil_of_length_eq_zero (by omega)
    refine ⟨_, ω, η, he, pre_grow hpre hb (fun _ _ _ => rfl) (fun b o h => .inl (hfree b o h)), ?_, Nat.le_refl _, fun _ _ => rfl, fun _ _ _ => ⟨fun _ => rfl, fun _ h => h⟩, hkeeps, .of_not rfl⟩
    · rw [he0]
      exact .slice .shared 1 0 _ none 0 (fun _ _ => undef) (by omega) (by simp) (by simp) (by omega) (by omega) (by omega) (by omega)
  · have hom : ∀ b o, b < w.heap.size → (if b = g then (if o < ss.length then Owner.imm else .free) else ω b o) = ω b o := fun b o h => if_neg (by omega)
    have hgl : g < w'.heap.size := (Array.getElem?_eq_some_iff.1 hgh).1
    refine ⟨_, fun b o => if b = g then (if o < ss.length then .imm else .free) else ω b o, η, he, pre_grow hpre hb hom (fun b o h => ?_), ?_, Nat.le_refl _, fun _ _ => rfl, fun b h o => ⟨fun _ => hom b o h, fun id h' => by rw [← hom b o h]; exact h'⟩, hkeeps, .of_not rfl⟩
    · by_cases hbg : b = g
      · subst hbg
        by_cases ho : o < ss.length
        · right; simp [ho, hgl]
        · left; simp [ho]
      · rw [if_neg hbg]
        exact .inl (hfree b o h)
    · unfold encL
      rw [← hlen]
      refine .slice .shared 1 ss.length _ (some ⟨g, 0, none⟩) cap (fun i _ => .string ((isort (L.map (·.1))).getD i bE)) hn (by simp) (by simp) (fun h0 => ⟨g, 0, rfl, fun i hi j hj => ?_⟩) (fun i hi => rfl) (fun i hi => ⟨rfl, rfl⟩) (fun i hi j c hj => ?_)
      · have hj0 : j = 0 := by omega
        subst hj0
        refine ⟨by simp [hi], ?_⟩
        have hcur : cur[0 + i * 1 + 0]? = some (.string ((isort (L.map (·.1))).getD i bE)) := by
          rw [Nat.zero_add, Nat.mul_one, Nat.add_zero, ← Array.getElem?_toList]
          have h1 : (cur.toList.take (ss.length * 1))[i]? = cur.toList[i]? := List.getElem?_take_of_lt (by omega)
          rw [← h1, hxs, hsort, List.map_map, List.getElem?_map]
          have hii : i < (isort (L.map (·.1))).length := by omega
          rw [List.getElem?_eq_getElem hii]
          simp only [Option.map_some, Function.comp, ky_enc, List.getD, List.getElem?_eq_getElem hii, Option.getD_some]
        unfold World.cell?
        rw [hgh]
        exact hcur
      · cases j with
        | zero => simp [AVal.cells] at hj; rw [← hj]; exact .str _
        | succ j => simp [AVal.cells] at hj

theorem u16 {x : Int} (h : wfInt .u16 x) : 0 ≤ x ∧ x < 65536 := by
  unfold wfInt Lit.wf at h
  simp [Go.IntKind.min, Go.IntKind.max, IntKind.bits, IntKind.signed] at h
  omega
theorem u8 {x : Int} (h : wfInt .u8 x) : 0 ≤ x ∧ x < 256 := by
  unfold wfInt Lit.wf at h
  simp [Go.IntKind.min, Go.IntKind.max, IntKind.bits, IntKind.signed] at h
  omega
theorem strOk (h : AM.Hint) (h1 : h.bs.all (fun p => decide (p = (50, 78, 5))) = true) (h2 : h.bl.all (fun p => decide (p = (48, 78, 5))) = true) : StrOk h extRel := by
  have key : ∀ (l : List (Nat × Nat × Nat)) (q : Nat × Nat × Nat), l.all (fun p => decide (p = q)) = true → ∀ g T e, bsOf l g = some (T, e) → (g, T, e) = q := by
    intro l q hl
    induction l with
    | nil => intro g T e h; cases h
    | cons p l ih =>
      intro g T e h
      simp only [List.all_cons, Bool.and_eq_true, decide_eq_true_eq] at hl
      obtain ⟨a, b, c⟩ := p
      unfold bsOf at h
      cases hg : Nat.beq a g with
      | true =>
        rw [hg] at h
        simp only [cond_true, Option.some.injEq, Prod.mk.injEq] at h
        rw [← hl.1, ← h.1, ← h.2, Nat.eq_of_beq_eq_true hg]
      | false => rw [hg] at h; exact ih hl.2 g T e h
  refine ⟨fun g T e h H id b hH hb => ?_, fun g T e h H id b hH => ?_⟩
  · have := key _ _ h1 g T e h
    cases this
    exact .inr (.inr (.inr ⟨rfl, id, b, rfl, hH, hb, rfl, rfl⟩))
  · have := key _ _ h2 g T e h
    cases this
    exact .inr (.inr (.inl ⟨rfl, id, b, rfl, hH, rfl, rfl⟩))
theorem lkN_all {α : Type} {p : α → Bool} : ∀ {l : List (Nat × α)}, l.all (fun x => p x.2) = true → ∀ {f : Nat} {a : α}, lkN f l = some a → p a = true
  | [], _, f, a, h => by cases h
  | (g, x) :: l, hl, f, a, h => by
    simp only [List.all_cons, Bool.and_eq_true] at hl
    unfold lkN at h
    cases hg : Nat.beq g f with
    | true => rw [hg] at h; cases h; exact hl.1
    | false => rw [hg] at h; exact lkN_all hl.2 h
def hintFine (x : AM.Hint × Keep) : Bool := x.1.bs.all (fun p => decide (p = (50, 78, 5))) && x.1.bl.all (fun p => decide (p = (48, 78, 5)))
theorem funOf_hint {F : Func} {h : AM.Hint} {kp : Keep} {fn : Fun} (e : funOf F h kp = some fn) : fn.hint = h := by
  unfold funOf at e
  split at e <;> cases e
  rfl
theorem gOk : ProgOk Tryz.checked.prog G := by
  refine ⟨tOk, fun f fn h => ?_, fun f args H r H' h => ?_, fun f args H r H' h => ?_, Checked.mixed _, of_decide_eq_true (by kernel_rfl), fun f fn h => ?_, fun i h kp hr => ?_⟩
  · have h : fnOf f = some fn := h
    unfold fnOf at h
    split at h
    · split at h
      · rename_i F hF
        cases hn : F.name == "runtime.NumGoroutine" with
        | true => rw [hn] at h; cases h
        | false => rw [hn] at h; exact funOf_ok hF hn h
      · cases h
    · cases h
  · rcases h with h | ⟨rfl, h⟩ | ⟨rfl, h⟩ | ⟨rfl, h⟩
    · exact ext_sound f args H r H' h
    · exact sound_write Tryz.bld166 Tryz.bldX args H r H' h
    · exact sound_len Tryz.bld170 args H r H' h
    · exact sound_string Tryz.bld169 Tryz.bldX args H r H' h
  · rcases h with h | ⟨rfl, h⟩ | ⟨rfl, h⟩ | ⟨rfl, h⟩
    · obtain ⟨rfl, _⟩ := h
      exact ⟨_, Tryz.func65, by kernel_rfl, by kernel_rfl⟩
    · exact ⟨_, Tryz.bld166.f166, by kernel_rfl, by kernel_rfl⟩
    · exact ⟨_, Tryz.bld170.f170, by kernel_rfl, by kernel_rfl⟩
    · exact ⟨_, Tryz.bld169.f169, by kernel_rfl, by kernel_rfl⟩
  · have h : fnOf f = some fn := h
    unfold fnOf at h
    split at h
    · rename_i hh kp hl
      split at h
      · rename_i F hF
        cases hn : F.name == "runtime.NumGoroutine" with
        | true => rw [hn] at h; cases h
        | false =>
          rw [hn] at h
          have e := funOf_hint h
          have := lkN_all (p := hintFine) (by kernel_rfl) hl
          simp only [hintFine, Bool.and_eq_true] at this
          rw [e]; exact strOk _ this.1 this.2
      · cases h
    · cases h
  · have := lkN_all (p := hintFine) (by kernel_rfl) (show lkN i rndTab = some (h, kp) from hr)
    simp only [hintFine, Bool.and_eq_true] at this
    exact strOk _ this.1 this.2
end Go.Proofs.YtkignmhjbjgkoaaGreat
