/- Slots: what is read of them, what is put into them, what is handed from one to another. -/
import Derived.Test.YtkkinfbipndfdaaAmB
set_option linter.unusedVariables false
set_option linter.unusedSimpArgs false
namespace Go.AM
open Go.RowKit

/-- What an operand reads as. -/
def EvRep (w : World) (g : Gh) (N : Nat) : AVal → Value → Prop
  | .undef, _ => True
  | .lptr s off, v => v = .pointer (some ⟨g.β s, off, none⟩)
  | .vref s n, v => ∃ ad cap, v = .slice ad n cap ∧ (0 < n → ad = some ⟨g.β s, 0, none⟩)
  | a, v => Rep w g.I g.η N a v

def isOwn : AVal → Bool
  | .slice .own _ _ _ => true
  | _ => false
theorem not_own {a : AVal} (h : isOwn a = false) : ∀ e n f, a ≠ .slice .own e n f := by
  intro e n f he; subst he; simp [isOwn] at h
theorem isOwn0_eq (a : AVal) : isOwn0 a = isOwn a := by cases a <;> first | rfl | (rename_i sp e n f; cases sp <;> rfl)
theorem isOwn_dis (a : AVal) : isOwn (dis a) = false := by
  cases a <;> simp [dis, isOwn]
  rename_i sp e n f; cases sp <;> simp [dis, isOwn]

theorem ofConst_rep (w : World) (g : Gh) (N : Nat) (v : Value) : EvRep w g N (ofConst v) v := by
  unfold ofConst
  split <;> first
    | exact .bool _ | exact .int _ _ | exact .str _ | exact .nilIface | exact .nilFunc | exact .nilPtr | exact .nilMap
    | exact .slice .nil 0 0 _ none 0 (fun _ _ => undef) (Nat.le_refl _) (by simp) (by simp) (by omega) (by omega) (by omega) (by omega)
    | trivial

theorem slotVal_rep {w : World} {g : Gh} {N t : Nat} {a : AVal} {v : Value} (h : RepSlot w g N t a v) : EvRep w g N (slotVal t a) v := by
  cases a with
  | vec e n cs =>
    obtain ⟨_, _, h⟩ := h
    rcases h with ⟨e1, e2⟩ | ⟨cap, e1, _⟩
    · exact ⟨none, 0, by rw [e2]; exact e1, fun h => by omega⟩
    · exact ⟨_, cap, e1, fun _ => rfl⟩
  | _ => first
    | trivial
    | exact h.1
    | exact h

section
variable {w0 : World} {ω0 : Entry} {w : World} {g : Gh} {st : St} {vs : Array Value}

theorem Rel.ev [VR : Vars] (h : Rel w0 ω0 w g st vs) (x : Operand) (a : Act) (ha : a.tmps = vs) : EvRep w g st.H.length (AM.ev st.ts x) (a.eval x) := by
  cases x with
  | tmp t =>
    simp only [AM.ev, Act.eval, ha]
    rcases Nat.lt_or_ge t st.ts.length with ht | ht
    · have ht' : t < vs.size := by rw [← h.len]; exact ht
      have e1 : st.ts[t]? = some (st.ts.getD t .undef) := by simp [List.getD, List.getElem?_eq_getElem ht]
      have e2 : vs[t]? = some (vs.getD t undef) := by simp [Array.getD, ht']
      exact slotVal_rep (h.slot t _ _ e1 e2)
    · have e1 : st.ts.getD t .undef = .undef := by simp [List.getD, List.getElem?_eq_none ht]
      rw [e1]; trivial
  | const v => exact ofConst_rep _ _ _ v
  | func f => exact .func f [] #[] rfl (fun i c v h => by simp at h)
  | global n => trivial

theorem EvRep.rep {w : World} {g : Gh} {N : Nat} {a : AVal} {v : Value} (h : EvRep w g N a v) (h1 : a ≠ .undef) (h3 : ∀ s' o, a ≠ .lptr s' o) (h4 : ∀ s' n, a ≠ .vref s' n := by simp) : Rep w g.I g.η N a v := by
  cases a <;> first | exact h | exact absurd rfl h1 | exact absurd rfl (h3 _ _) | exact absurd rfl (h4 _ _)
theorem EvRep.slot {w : World} {g : Gh} {N s : Nat} {a : AVal} {v : Value} (h : EvRep w g N a v) (ho : isOwn a = false) : RepSlot w g N s a v := by
  cases a with
  | undef => trivial
  | lptr s' o => exact h
  | vref s' n => exact h
  | vec e n cs => cases h
  | lbox cs => cases h
  | _ => exact ⟨h, fun e n f he => absurd he (not_own ho e n f)⟩

theorem Rep.dis {w : World} {I : Nat → Nat → Prop} {η : Nat → Nat} {N : Nat} {a : AVal} {v : Value} (h : Rep w I η N a v) : Rep w I η N (AM.dis a) v := by
  cases h with
  | slice sp esz n f ad cap vals hc hx hn ha hl hp hr =>
    cases sp <;> simp only [AM.dis] <;> exact .slice _ esz n f ad cap vals hc (by simp_all) (by simp_all) ha hl hp hr
  | agg cs vs hl hr hp => exact .agg cs vs hl hr hp
  | bool b => exact .bool b
  | int k n => exact .int k n
  | str s => exact .str s
  | nilIface => exact .nilIface
  | nilFunc => exact .nilFunc
  | nilMap => exact .nilMap
  | nilPtr => exact .nilPtr
  | func f cs vs hl hr => exact .func f cs vs hl hr
  | tuple cs vs hl hr => exact .tuple cs vs hl hr
  | rptr c b o vals hp ha hr => exact .rptr c b o vals hp ha hr
  | map id h => exact .map id h
  | href id off h => exact .href id off h
  | mslice id off n esz ag cap h hc hag => exact .mslice id off n esz ag cap h hc hag
  | iface t a v hr => exact .iface t a v hr
  | yld id h => exact .yld id h
  | err t v => exact .err t v
theorem plain_dis (a : AVal) : plain (AM.dis a) = plain a := by
  cases a <;> simp [AM.dis, plain]
  rename_i sp e n f; cases sp <;> simp [AM.dis, plain]
theorem EvRep.dis {w : World} {g : Gh} {N : Nat} {a : AVal} {v : Value} (h : EvRep w g N a v) : EvRep w g N (AM.dis a) v := by
  cases a with
  | slice sp e n f => cases sp <;> exact Rep.dis h
  | _ => exact h
theorem Rep.disAgg {w : World} {I : Nat → Nat → Prop} {η : Nat → Nat} {N : Nat} {a : AVal} {v : Value} (h : Rep w I η N a v) : Rep w I η N (AM.disAgg a) v := by
  cases a with
  | agg cs =>
    cases h with
    | agg _ vs hl hr hp =>
      refine .agg _ vs (by simpa using hl) (fun i c v hc hv => ?_) (fun c hc => ?_)
      · simp only [List.getElem?_map, Option.map_eq_some_iff] at hc
        obtain ⟨c0, hc0, rfl⟩ := hc
        exact (hr i c0 v hc0 hv).dis
      · obtain ⟨c0, h0, rfl⟩ := List.mem_map.1 hc
        rw [plain_dis]; exact hp _ h0
  | _ => exact h.dis
theorem isOwn_disAgg (a : AVal) : isOwn (disAgg a) = false := by
  cases a <;> first | rfl | exact isOwn_dis _
theorem RepSlot.dis {w : World} {g : Gh} {N s : Nat} {a : AVal} {v : Value} (h : RepSlot w g N s a v) : RepSlot w g N s (AM.dis a) v := by
  cases a with
  | slice sp e n f =>
    have h' : RepPl w g N s 0 _ v := h
    have hd := h'.1.dis
    have := isOwn_dis (.slice sp e n f)
    exact EvRep.slot (a := AM.dis (.slice sp e n f)) (by cases sp <;> exact hd) this
  | _ => exact h

theorem getElem?_setIf {α : Type} (xs : Array α) (i j : Nat) (v : α) : (xs.setIfInBounds i v)[j]? = if i = j ∧ i < xs.size then some v else xs[j]? := by
  rw [Array.getElem?_setIfInBounds]
  by_cases h : i = j
  · subst h
    by_cases h2 : i < xs.size <;> simp [h2]
  · simp [h]

/-- A value that owns nothing is put into a slot. -/
theorem Rel.put [VR : Vars] (h : Rel w0 ω0 w g st vs) (d : Option Nat) {v : AVal} {x : Value} (hv : ∀ s, RepSlot w g st.H.length s v x) : Rel w0 ω0 w g (putD st d v) (Act.put ⟨vs, []⟩ d x).tmps := by
  cases d with
  | none => exact h
  | some d =>
    simp only [putD, Act.put]
    refine ⟨h.base, by simp [h.len], fun s a y h1 h2 => ?_, h.mine, h.past, h.keeps, h.old⟩
    simp only [List.getElem?_set] at h1
    rw [getElem?_setIf] at h2
    by_cases e : d = s
    · subst e
      simp only [if_true] at h1
      split at h1
      · rename_i hlt
        rw [if_pos ⟨rfl, by rw [← h.len]; exact hlt⟩] at h2
        cases h1; cases h2; exact hv _
      · cases h1
    · rw [if_neg e] at h1; rw [if_neg (fun hh => e hh.1)] at h2
      exact h.slot s a y h1 h2

theorem Rel.set_ts [VR : Vars] (h : Rel w0 ω0 w g st vs) {ts' : List AVal} (hl : ts'.length = st.ts.length) (hs : ∀ (s : Nat) a v, ts'[s]? = some a → vs[s]? = some v → st.ts[s]? ≠ none → RepSlot w g st.H.length s a v) : Rel w0 ω0 w g { st with ts := ts' } vs :=
  ⟨h.base, hl.trans h.len, fun s a v h1 h2 => hs s a v h1 h2 (by
    intro e
    rw [List.getElem?_eq_none_iff] at e
    have h1' : ts'[s]? = some a := h1
    rw [List.getElem?_eq_none (show ts'.length ≤ s by omega)] at h1'; cases h1'), h.mine, h.past, h.keeps, h.old⟩

theorem Rel.set1 [VR : Vars] (h : Rel w0 ω0 w g st vs) (t : Nat) {a' : AVal} (hs : ∀ a v, st.ts[t]? = some a → vs[t]? = some v → RepSlot w g st.H.length t a' v) : Rel w0 ω0 w g { st with ts := st.ts.set t a' } vs := by
  refine h.set_ts (by simp) (fun s a v h1 h2 h3 => ?_)
  simp only [List.getElem?_set] at h1
  by_cases e : t = s
  · subst e
    simp only [if_true] at h1
    split at h1
    · rename_i hlt
      cases h1
      exact hs _ v (List.getElem?_eq_getElem hlt) h2
    · cases h1
  · rw [if_neg e] at h1
    exact h.slot s a v h1 h2

theorem Rel.disown [VR : Vars] (h : Rel w0 ω0 w g st vs) (x : Operand) : Rel w0 ω0 w g { st with ts := AM.disown st.ts x } vs := by
  cases x with
  | tmp t =>
    refine h.set1 t (fun a v h1 h2 => ?_)
    have : st.ts.getD t .undef = a := by simp [List.getD, h1]
    rw [this]; exact (h.slot t a v h1 h2).dis
  | _ => exact h

/-- Spare room handed from one place to another. -/
def ren (p q : Nat × Nat) (o : Owner) : Owner :=
  if o = .tail p.1 p.2 then .tail q.1 q.2 else if o = .tail q.1 q.2 then .free else o

theorem ren_imm {p q : Nat × Nat} {o : Owner} : ren p q o = .imm ↔ o = .imm := by
  unfold ren; split
  · rename_i h; simp [h]
  · split
    · rename_i h; simp [h]
    · exact Iff.rfl
theorem ren_h {p q : Nat × Nat} {o : Owner} {id : Nat} : ren p q o = .h id ↔ o = .h id := by
  unfold ren; split
  · rename_i h; simp [h]
  · split
    · rename_i h; simp [h]
    · exact Iff.rfl
theorem ren_box {p q : Nat × Nat} {o : Owner} {s : Nat} : ren p q o = .box s ↔ o = .box s := by
  unfold ren; split
  · rename_i h; simp [h]
  · split
    · rename_i h; simp [h]
    · exact Iff.rfl
theorem ren_free {p q : Nat × Nat} {o : Owner} (h : ren p q o ≠ .free) : o ≠ .free := by
  intro e; subst e; apply h; simp [ren]
theorem ren_ht {p q : Nat × Nat} {o : Owner} {id i : Nat} : ren p q o = .ht id i ↔ o = .ht id i := by
  unfold ren; split
  · rename_i h; simp [h]
  · split
    · rename_i h; simp [h]
    · exact Iff.rfl
theorem ren_tail {p q : Nat × Nat} {o : Owner} {s i : Nat} (h : ren p q o = .tail s i) : ∃ s' i', o = .tail s' i' := by
  unfold ren at h; split at h
  · rename_i e; exact ⟨_, _, e⟩
  · split at h
    · cases h
    · exact ⟨_, _, h⟩

def Gh.ren (g : Gh) (p q : Nat × Nat) : Gh := { g with ω := fun b o => AM.ren p q (g.ω b o) }

theorem Gh.ren_same (w : World) (g : Gh) (p q : Nat × Nat) (N : Nat) : Same (fun o => o = .tail p.1 p.2 ∨ o = .tail q.1 q.2) w g N w (g.ren p q) :=
  ⟨fun b o h hX => ⟨by
    have h1 : g.ω b o ≠ .tail p.1 p.2 := fun e => hX (.inl e)
    have h2 : g.ω b o ≠ .tail q.1 q.2 := fun e => hX (.inr e)
    show AM.ren p q (g.ω b o) = _
    unfold AM.ren; rw [if_neg h1, if_neg h2], rfl⟩, fun b _ _ => rfl, fun _ _ => rfl⟩

theorem Base.ren (B : Base w g.ω g.η st.H) (p q : Nat × Nat) : Base w (g.ren p q).ω (g.ren p q).η st.H where
  heap := fun id o ho => (Gh.ren_same w g p q st.H.length).objs (by simp) (Nat.le_refl _) B ho (by simp) (by simp) (by simp)
  lock := B.lock
  live := fun b o h => B.live b o (ren_free h)
  soft := fun b o h1 h2 h3 => B.soft b o (ren_free h1) (fun e => h2 (ren_imm.2 e)) (fun id e => h3 id (ren_h.2 e))
  tail := fun b o h => by
    rcases h with ⟨s, i, h⟩ | ⟨id, i, h⟩
    · obtain ⟨s', i', e⟩ := ren_tail h
      exact B.tail b o (.inl ⟨s', i', e⟩)
    · exact B.tail b o (.inr ⟨id, i, ren_ht.1 h⟩)
  sep := fun b o o' id h => by
    rcases B.sep b o o' id (ren_h.1 h) with e | e
    · exact .inl (ren_h.2 e)
    · right; show AM.ren p q (g.ω b o') = _; rw [e]; simp [AM.ren]
  low := fun b o id h => B.low b o id (by
    rcases h with h | ⟨i, h⟩
    · exact .inl (ren_h.1 h)
    · exact .inr ⟨i, ren_ht.1 h⟩)

/-- A place other than p and q keeps its value; p must not own any more. -/
theorem RepPl.ren {N s i : Nat} {a : AVal} {v : Value} (h : RepPl w g N s i a v) (p q : Nat × Nat) (hp : ((s, i) ≠ p ∧ (s, i) ≠ q) ∨ isOwn a = false) : RepPl w (g.ren p q) N s i a v := by
  refine (Gh.ren_same w g p q N).pl (by simp) (Nat.le_refl _) ?_ h
  rcases hp with ⟨h1, h2⟩ | h
  · left
    rintro (e | e)
    · cases e; exact h1 rfl
    · cases e; exact h2 rfl
  · exact .inr (not_own h)

theorem RepSlot.ren {N s : Nat} {a : AVal} {v : Value} (h : RepSlot w g N s a v) (p q : Nat × Nat)
    (hp : ∀ i c, (a = .lbox c ∨ i = 0) → ((s, i) ≠ p ∧ (s, i) ≠ q) ∨ isOwn a = false ∧ ∀ cs c', a = .lbox cs → cs[i]? = some c' → isOwn c' = false) : RepSlot w (g.ren p q) N s a v := by
  cases a with
  | undef => trivial
  | lptr s' o => exact h
  | vref s' n => exact h
  | vec e n cs =>
    obtain ⟨h1, h2, h3⟩ := h
    refine ⟨h1, h2, h3.imp (fun e => e) ?_⟩
    rintro ⟨cap, e1, e2, e3, e4⟩
    refine ⟨cap, e1, e2, fun o ho => ⟨ren_box.2 (e3 o ho).1, (e3 o ho).2⟩, fun o c hc => ?_⟩
    obtain ⟨c1, c2, x, c3, c4⟩ := e4 o c hc
    exact ⟨c1, c2, x, c3, (Gh.ren_same w g p q N).rep (by simp) (Nat.le_refl _) c4⟩
  | lbox cs =>
    obtain ⟨h1, h2, h3⟩ := h
    refine ⟨h1, fun o ho => ren_box.2 (h2 o ho), fun o c hc => ?_⟩
    obtain ⟨hpl, x, hx, hr⟩ := h3 o c hc
    refine ⟨hpl, x, hx, hr.ren p q ?_⟩
    rcases hp o cs (.inl rfl) with h | h
    · exact .inl h
    · exact .inr (h.2 cs c rfl hc)
  | _ =>
    refine RepPl.ren (i := 0) h p q ?_
    rcases hp 0 [] (.inr rfl) with h | h
    · exact .inl h
    · exact .inr h.1

/-- What p owned, q owns. -/
theorem RepPl.moved {N s i d j : Nat} {a : AVal} {v : Value} (h : RepPl w g N s i a v) : RepPl w (g.ren (s, i) (d, j)) N d j a v := by
  refine ⟨(Gh.ren_same w g _ _ N).rep (by simp) (Nat.le_refl _) h.1, fun esz n f e => ?_⟩
  obtain ⟨ad, cap, hv, hj⟩ := h.2 esz n f e
  refine ⟨ad, cap, hv, fun k h1 h2 => ?_⟩
  obtain ⟨b, o, e1, e2⟩ := hj k h1 h2
  exact ⟨b, o, e1, by show AM.ren _ _ (g.ω _ _) = _; rw [e2]; simp [AM.ren]⟩

theorem Rel.mine_ren [VR : Vars] (h : Rel w0 ω0 w g st vs) (p q : Nat × Nat) : ∀ b o, ((∃ s, (g.ren p q).ω b o = .box s) ∨ ∃ s i, (g.ren p q).ω b o = .tail s i) → w0.heap.size ≤ b ∨ ∃ id i, ω0.ω b o = .ht id i := by
  intro b o hb
  refine h.mine b o ?_
  rcases hb with ⟨s, e⟩ | ⟨s, i, e⟩
  · exact .inl ⟨s, ren_box.1 e⟩
  · obtain ⟨s', i', e'⟩ := ren_tail e; exact .inr ⟨s', i', e'⟩
theorem Rel.past_ren [VR : Vars] (h : Rel w0 ω0 w g st vs) (p q : Nat × Nat) : ∀ b, b < w0.heap.size → ∀ o, ((∀ id i, ω0.ω b o ≠ .ht id i) → (g.ren p q).ω b o = ω0.ω b o) ∧ ∀ id, (g.ren p q).ω b o = .h id → ω0.ω b o = .h id := by
  intro b hb o
  refine ⟨fun hn => ?_, fun id hh => (h.past b hb o).2 id (ren_h.1 hh)⟩
  have e := (h.past b hb o).1 hn
  show AM.ren p q (g.ω b o) = _
  have : ∀ s i, g.ω b o ≠ .tail s i := fun s i e' => by
    rcases h.mine b o (.inr ⟨s, i, e'⟩) with h1 | ⟨id, i', h1⟩
    · omega
    · exact hn _ _ h1
  unfold AM.ren; rw [if_neg (this _ _), if_neg (this _ _)]; exact e

/-- An operand's value, with what it owns, into slot d. -/
theorem Rel.move [VR : Vars] (h : Rel w0 ω0 w g st vs) (x : Operand) (d : Nat) (a : Act) (ha : a.tmps = vs) (f : AVal → AVal)
    (hf : ∀ A v (g' : Gh) s, RepPl w g' st.H.length s 0 A v → RepPl w g' st.H.length s 0 (f A) v) (hfu : f .undef = .undef) (hfl : ∀ s o, f (.lptr s o) = .lptr s o) (hfv : ∀ s n, f (.vref s n) = .vref s n) :
    ∃ g', Rel w0 ω0 w g' (putD { st with ts := AM.disown st.ts x } (some d) (f (AM.ev st.ts x))) (Act.put ⟨vs, []⟩ (some d) (a.eval x)).tmps := by
  have hev := h.ev x a ha
  by_cases hown : isOwn (AM.ev st.ts x) = true
  · -- an owner: it lies in a slot
    cases x with
    | const v => simp only [AM.ev, ofConst] at hown; split at hown <;> simp [isOwn] at hown
    | func f => simp [AM.ev, isOwn] at hown
    | global n => simp [AM.ev, isOwn] at hown
    | tmp t =>
      have hA : ∃ e n f', st.ts.getD t .undef = .slice .own e n f' := by
        simp only [AM.ev] at hown
        cases hh : st.ts.getD t .undef <;> rw [hh] at hown <;> simp [slotVal, isOwn] at hown
        rename_i sp e n f'
        cases sp <;> simp [isOwn] at hown
        exact ⟨e, n, f', rfl⟩
      obtain ⟨e, n, f', hA⟩ := hA
      have ht : st.ts[t]? = some (.slice .own e n f') := by
        rcases hq : st.ts[t]? with _ | q
        · simp [List.getD, hq] at hA
        · simp [List.getD, hq] at hA; rw [hA]
      have htl : t < st.ts.length := by
        rcases Nat.lt_or_ge t st.ts.length with h | h
        · exact h
        · rw [List.getElem?_eq_none h] at ht; cases ht
      have htv : t < vs.size := by rw [← h.len]; exact htl
      have hv : vs[t]? = some (vs.getD t undef) := by simp [Array.getD, htv]
      have hpl : RepPl w g st.H.length t 0 (.slice .own e n f') (vs.getD t undef) := h.slot t _ _ ht hv
      refine ⟨g.ren (t, 0) (d, 0), ⟨h.base.ren _ _, by simp [putD, Act.put, AM.disown, h.len], ?_, h.mine_ren _ _, h.past_ren _ _, h.keeps, h.old⟩⟩
      intro s A v h1 h2
      simp only [putD, AM.disown, List.getElem?_set] at h1
      simp only [Act.put, Act.eval, ha] at h2
      rw [getElem?_setIf] at h2
      by_cases ed : d = s
      · subst ed
        simp only [if_true] at h1
        split at h1
        · rename_i hlt
          simp only [List.length_set] at hlt
          rw [if_pos ⟨rfl, by rw [← h.len]; exact hlt⟩] at h2
          cases h1; cases h2
          have hm : RepPl w (g.ren (t, 0) (d, 0)) st.H.length d 0 (.slice .own e n f') (vs.getD t undef) := hpl.moved
          simp only [AM.ev, hA, slotVal]
          refine RepSlot.of_pl (hf _ _ _ _ hm)
        · cases h1
      · rw [if_neg ed] at h1; rw [if_neg (fun hh => ed hh.1)] at h2
        by_cases et : t = s
        · subst et
          simp only [if_true, if_pos htl] at h1
          cases h1
          rw [hA]
          rw [hv] at h2; cases h2
          have hd : RepSlot w g st.H.length t (AM.dis (.slice .own e n f')) (vs.getD t undef) := RepSlot.dis (a := .slice .own e n f') hpl
          exact hd.ren _ _ (fun i c hi => .inr ⟨isOwn_dis _, fun cs c' hc => by simp [AM.dis] at hc⟩)
        · rw [if_neg et] at h1
          exact (h.slot s A v h1 h2).ren _ _ (fun i c hi => .inl ⟨fun hh => et (by cases hh; rfl), fun hh => ed (by cases hh; rfl)⟩)
  · have hown : isOwn (AM.ev st.ts x) = false := by simpa using hown
    refine ⟨g, ?_⟩
    refine (h.disown x).put (some d) (fun s => ?_)
    have hs := hev.slot (s := s) hown
    by_cases e1 : AM.ev st.ts x = .undef
    · rw [e1, hfu]; trivial
    · by_cases e2 : ∃ s o, AM.ev st.ts x = .lptr s o
      · obtain ⟨s', o, e2⟩ := e2
        rw [e2] at hs ⊢; rw [hfl]; exact hs
      · by_cases e3 : ∃ s n, AM.ev st.ts x = .vref s n
        · obtain ⟨s', n, e3⟩ := e3
          rw [e3] at hs ⊢; rw [hfv]; exact hs
        have e3' : ∀ s n, AM.ev st.ts x ≠ .vref s n := fun s n h => e3 ⟨s, n, h⟩
        have e4' : ∀ e n cs, AM.ev st.ts x ≠ .vec e n cs := by
          intro e n cs hh; rw [hh] at hev; cases hev
        have e2' : ∀ s o, AM.ev st.ts x ≠ .lptr s o := fun s o h => e2 ⟨s, o, h⟩
        have hnb : ∀ cs, AM.ev st.ts x ≠ .lbox cs := by
          intro cs hh; rw [hh] at hev; cases hev
        have hp0 : RepPl w g st.H.length s 0 (AM.ev st.ts x) (a.eval x) := hs.pl e1 hnb e2' e4' e3'
        exact RepSlot.of_pl (hf _ _ _ _ hp0)

theorem Rel.move_id [VR : Vars] (h : Rel w0 ω0 w g st vs) (x : Operand) (d : Nat) (a : Act) (ha : a.tmps = vs) :
    ∃ g', Rel w0 ω0 w g' (putD { st with ts := AM.disown st.ts x } (some d) (AM.ev st.ts x)) (Act.put ⟨vs, []⟩ (some d) (a.eval x)).tmps :=
  h.move x d a ha id (fun _ _ _ _ h => h) rfl (fun _ _ => rfl) (fun _ _ => rfl)

end
end Go.AM
