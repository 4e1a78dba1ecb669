/- Regions whose order is drawn: the machine's run is the model's, whatever the order. -/
import Derived.Test.YtkkinfbipndfdaaAmU
set_option linter.unusedVariables false
set_option linter.unusedSimpArgs false
namespace Go.AM
open Go.RowKit

section
variable {R : Type} {P : Program} {E : Env} {C : FuncId → List AVal → List HObj → AVal → List HObj → Prop} {all : List Oper}

theorem doDraw_chain {k : St → List Ent → Tree R} {r : R} : ∀ (rest : List Oper) (i : Nat) (st : St) (tr : List Ent), (∀ j, rest[j]? = all[i + j]?) → Den C (doDraw E all i rest st tr k) r →
    ∃ l st', Ch C E all l st st' ∧ l.map (·.i) = List.range' i rest.length ∧ Den C (k st' (tr ++ l)) r
  | [], i, st, tr, _, h => ⟨[], st, rfl, rfl, by simpa [doDraw] using h⟩
  | o :: rest, i, st, tr, hl, h => by
    have ho : all[i]? = some o := by simpa using (hl 0).symm
    have hl' : ∀ j, rest[j]? = all[i + 1 + j]? := fun j => by have := hl (j + 1); simpa [Nat.add_assoc, Nat.add_comm 1 j] using this
    have step : ∀ e : Ent, e.i = i → Yi C E all st e → Den C (doDraw E all (i + 1) rest (e.δ.app st) (tr ++ [e]) k) r →
        ∃ l st', Ch C E all l st st' ∧ l.map (·.i) = List.range' i (o :: rest).length ∧ Den C (k st' (tr ++ l)) r := fun e he hy h => by
      obtain ⟨l, st', h1, h2, h3⟩ := doDraw_chain rest (i + 1) _ _ hl' h
      exact ⟨e :: l, st', ⟨hy, h1⟩, by simp [he, h2, List.range'_succ], by simpa using h3⟩
    simp only [doDraw] at h
    split at h
    · rename_i hg
      obtain ⟨v, δ, h1, h2⟩ := den_dOp h
      obtain ⟨v', hsv, h2⟩ := eqv_den h2
      exact step (entOf i [] st o v' δ) rfl ⟨o, ho, .inl ⟨hg, v, v', δ, h1, hsv, rfl⟩⟩ h2
    · rename_i j want hg
      split at h
      · rename_i d hd
        split at h
        · rename_i b hb
          have hsame : ∀ b', b = b' → ({ st with ts := st.ts.set d (.bool b') } : St) = st := fun b' e => by rw [← e, (set_same hb (by simp)).1]
          have hyes : ∀ b', b = b' → b' = want → Den C (dOp E (isBase all o.dst) o { st with ts := st.ts.set d (.bool b') } fun v δ => eqv E o.dst v fun v => doDraw E all (i + 1) rest ((entOf i [d] { st with ts := st.ts.set d (.bool b') } o v δ).δ.app { st with ts := st.ts.set d (.bool b') }) (tr ++ [entOf i [d] { st with ts := st.ts.set d (.bool b') } o v δ]) k) r →
              ∃ l st', Ch C E all l st st' ∧ l.map (·.i) = List.range' i (o :: rest).length ∧ Den C (k st' (tr ++ l)) r := fun b' e hw h => by
            rw [hsame b' e] at h
            obtain ⟨v, δ, h1, h2⟩ := den_dOp h
            obtain ⟨v', hsv, h2⟩ := eqv_den h2
            exact step (entOf i [d] st o v' δ) rfl ⟨o, ho, .inr ⟨j, want, d, _, hg, hd, hb, .inl ⟨by rw [e, hw], v, v', δ, h1, hsv, rfl⟩⟩⟩ h2
          have hno : ∀ b', b = b' → b' ≠ want → Den C (doDraw E all (i + 1) rest ((entSkip i d o).δ.app { st with ts := st.ts.set d (.bool b') }) (tr ++ [entSkip i d o]) k) r →
              ∃ l st', Ch C E all l st st' ∧ l.map (·.i) = List.range' i (o :: rest).length ∧ Den C (k st' (tr ++ l)) r := fun b' e hw h => by
            rw [hsame b' e] at h
            exact step (entSkip i d o) rfl ⟨o, ho, .inr ⟨j, want, d, _, hg, hd, hb, .inr ⟨.inl ⟨b, rfl, by rw [e]; exact hw⟩, rfl⟩⟩⟩ h
          cases want with
          | true =>
            rcases h.inv with ⟨e, h⟩ | ⟨e, h⟩
            · exact hyes true e rfl h
            · exact hno false e (by simp) h
          | false =>
            rcases h.inv with ⟨e, h⟩ | ⟨e, h⟩
            · exact hno true e (by simp) h
            · exact hyes false e rfl h
        · rename_i hb
          exact step (entSkip i d o) rfl ⟨o, ho, .inr ⟨j, want, d, _, hg, hd, hb, .inr ⟨.inr rfl, rfl⟩⟩⟩ h
        · exact (noDen h).elim
      · exact (noDen h).elim

theorem backward_spec : ∀ (l : List Oper) (i : Nat), backward all i l = true → ∀ (j : Nat) o, l[j]? = some o → ∀ e ∈ o.after, Region.binds .any e = true → e.on < i + j
  | [], i, _, j, o, h => by simp at h
  | x :: l, i, hb, j, o, h => by
    simp only [backward, Bool.and_eq_true] at hb
    cases j with
    | zero =>
      simp only [List.getElem?_cons_zero, Option.some.injEq] at h
      subst h
      intro e he hbd
      have := List.all_eq_true.1 hb.1 e (by simpa using he)
      unfold Region.binds at hbd
      cases hgr : e.ground <;> rw [hgr] at this hbd <;> first | (simp at hbd; done) | (simp only [Bool.false_or] at this; have := Nat.le_of_ble_eq_true this; omega)
    | succ j =>
      intro e he hbd
      have := backward_spec l (i + 1) hb.2 j o (by simpa using h) e he hbd
      omega

theorem waits_spec {a b : Nat} (h : waits all a b = true) : ∃ o, all[b]? = some o ∧ ∃ e ∈ o.after, Region.binds .any e = true ∧ e.on = a := by
  unfold waits at h
  cases ho : all[b]? with
  | none => rw [ho] at h; cases h
  | some o =>
    rw [ho] at h
    obtain ⟨e, he, hq⟩ := List.any_eq_true.1 h
    simp only [Bool.and_eq_true] at hq
    refine ⟨o, rfl, e, by simpa using he, ?_, Nat.eq_of_beq_eq_true hq.2⟩
    have h1 := hq.1
    unfold Region.binds
    cases hgr : e.ground <;> rw [hgr] at h1 <;> first | rfl | (cases h1)

theorem waitsT_of {a b : Nat} (h : waits all a b = true) : ∀ n, waitsT all n a b = true
  | 0 => h
  | n + 1 => by simp [waitsT, h]

theorem waitsT_listed {listed : Array Bool} (hcl : ∀ (c : Nat) o, all[c]? = some o → listed.getD c false = true → ∀ e ∈ o.after, Region.binds .any e = true → listed.getD e.on false = true) :
    ∀ (n a b : Nat) o, all[b]? = some o → (∀ e ∈ o.after, Region.binds .any e = true → listed.getD e.on false = true) → waitsT all n a b = true → listed.getD a false = true := by
  have h0 : ∀ (a b : Nat) o, all[b]? = some o → (∀ e ∈ o.after, Region.binds .any e = true → listed.getD e.on false = true) → waits all a b = true → listed.getD a false = true := fun a b o ho hall h => by
    obtain ⟨o', ho', e, he, hb, hea⟩ := waits_spec h
    rw [ho] at ho'; cases ho'
    rw [← hea]; exact hall e he hb
  intro n
  induction n with
  | zero => exact h0
  | succ n ih =>
    intro a b o ho hall h
    simp only [waitsT, Bool.or_eq_true] at h
    rcases h with h | h
    · exact h0 a b o ho hall h
    · rw [ho] at h
      obtain ⟨e, he, hq⟩ := List.any_eq_true.1 h
      simp only [Bool.and_eq_true] at hq
      have hb : Region.binds .any e = true := by
        have h1 := hq.1
        unfold Region.binds
        cases hgr : e.ground <;> rw [hgr] at h1 <;> first | rfl | (cases h1)
      have hc := hall e (by simpa using he) hb
      have hlt : ∃ o', all[e.on]? = some o' := by
        cases hx : all[e.on]? with
        | some o' => exact ⟨o', rfl⟩
        | none =>
          exfalso
          have h2 := hq.2
          cases n with
          | zero => simp [waitsT, waits, hx] at h2
          | succ n => simp [waitsT, waits, hx] at h2
      obtain ⟨o', ho'⟩ := hlt
      exact ih a e.on o' ho' (hcl e.on o' ho' hc) hq.2

theorem pairsOk_spec : ∀ (l : List Ent), pairsOk all l = true → l.Pairwise fun a b => waitsT all 16 a.i b.i = true ∨ (Free1 a b ∧ Free1 b a)
  | [], _ => .nil
  | a :: l, h => by
    simp only [pairsOk, Bool.and_eq_true] at h
    refine .cons (fun b hb => ?_) (pairsOk_spec l h.2)
    have := List.all_eq_true.1 h.1 b hb
    simp only [Bool.or_eq_true] at this
    rcases this with h1 | h1 | h1
    · exact .inl (waitsT_of h1 16)
    · simp only [Ent.free, Bool.and_eq_true] at h1
      exact .inr ⟨free1_spec h1.1, free1_spec h1.2⟩
    · exact .inl h1

variable {w0 : World} {ω0 : Entry}

theorem Rel.drew [VR : Vars] {w : World} {g : Gh} {st : St} {vs : Array Value} (h : Rel w0 ω0 w g st vs) : Rel w0 ω0 { w with drawn := w.drawn + 1 } g st vs := h.of_heap rfl rfl rfl rfl

theorem putD_app {st : St} {o : Oper} {v : AVal} {δ : Delta} {i : Nat} {g : List Nat} : putD (δ.app st) o.dst v = (entOf i g st o v δ).δ.app st := by
  cases hd : o.dst with
  | none => simp [putD, entOf, hd, dstW, Delta.app]
  | some d => simp [putD, entOf, hd, dstW, Delta.app, setAll_app, setAll]
theorem putD_skip {st : St} {o : Oper} {i d : Nat} : putD st o.dst (.tuple []) = (entSkip i d o).δ.app st := by
  cases hd : o.dst with
  | none => simp [putD, entSkip, hd, dstW, Delta.app, setAll, killAll]
  | some d => simp [putD, entSkip, hd, dstW, Delta.app, setAll, killAll]

/-- One operation comes up. -/
theorem wpOp_of_Yi [VR : Vars] (hE : EnvOk P E C) {ρ : Option Nat} {nn : Nat} {ds : List Deferred} {ops : Array Oper} {Q : Exit → Act → World → Prop} {K : Act → World → Prop} {w : World} {g : Gh} {st : St} {vs : Array Value} {e : Ent}
    (h : Rel w0 ω0 w g st vs) (hy : Yi C E ops.toList st e) (hK : ∀ w' g' vs', Rel w0 ω0 w' g' (e.δ.app st) vs' → K ⟨vs', ds⟩ w') : wpOpIn (Fc ρ) nn P ops Q e.i K ⟨vs, ds⟩ w := by
  obtain ⟨o, ho, hy⟩ := hy
  have ho' : ops[e.i]? = some o := by simpa using ho
  have hdo : ∀ {v v' δ gs}, OpY C E (isBase ops.toList o.dst) o st v δ → SameV v v' → e = entOf e.i gs st o v' δ → o.wpIn (Fc ρ) nn P ⟨vs, ds⟩ w K Q := fun {v v' δ gs} h1 hsv h2 => by
    refine doOpIn_sound hE h (h1.doOp hE.str) (fun v'' st' x w' g' hR hk' => ?_)
    cases hk'
    refine hK w' g' _ ?_
    rw [h2, ← putD_app]
    exact hR.put_same hsv
  unfold wpOpIn
  simp only [ho']
  rcases hy with ⟨hg, v, v', δ, h1, hsv, h2⟩ | ⟨j, want, d, b, hg, hd, hb, hy⟩
  · rw [if_pos (by simp [Region.wanted, hg])]
    exact hdo h1 hsv h2
  · have hd' : (ops[j]?).bind (·.dst) = some d := by simpa using hd
    rcases hy with ⟨hbw, v, v', δ, h1, hsv, h2⟩ | ⟨hbw, h2⟩
    · have hv := h.bool_at (hb.trans hbw)
      have hyl : yielded ops vs j = some want := by simp [yielded, hd', hv]
      rw [if_pos (by simp [Region.wanted, hg, hyl])]
      exact hdo h1 hsv h2
    · have hyl : yielded ops vs j ≠ some want := by
        rcases hbw with ⟨b, e1, e2⟩ | e1
        · have hv := h.bool_at (hb.trans e1)
          simp [yielded, hd', hv, e2]
        · have hv := h.tuple_at (hb.trans e1)
          simp [yielded, hd', hv]
      rw [if_neg (by simpa [Region.wanted, hg] using hyl)]
      have hR := h.put o.dst (v := .tuple []) (x := undef) (fun s => repSlot_skip)
      have hdd : (Act.put ⟨vs, ds⟩ o.dst undef) = ⟨(Act.put ⟨vs, []⟩ o.dst undef).tmps, ds⟩ := by cases o.dst <;> rfl
      rw [hdd]
      refine ⟨fun _ _ => trivial, hK w g _ ?_⟩
      rw [h2, ← putD_skip]
      exact hR

theorem wpAny_of_Ch [VR : Vars] (hE : EnvOk P E C) {ρ : Option Nat} {nn : Nat} {ds : List Deferred} {ops : Array Oper} {Q : Exit → Act → World → Prop} {st' : St}
    (hback : ∀ (j : Nat) o, ops[j]? = some o → ∀ e ∈ o.after, Region.binds .any e = true → e.on < j)
    (hn : ∀ w' g' vs', Rel w0 ω0 w' g' st' vs' → Q .normal ⟨vs', ds⟩ w') :
    ∀ (fuel : Nat) (listed : Array Bool) (l : List Ent) (w : World) (g : Gh) (st : St) (vs : Array Value), l.length = fuel → listed.size = ops.size →
      (l.map (·.i)).Pairwise (· < ·) → (∀ i, i < ops.size → (listed.getD i true = false ↔ i ∈ l.map (·.i))) → (∀ e ∈ l, e.i < ops.size) →
      (l.Pairwise fun a b => waitsT ops.toList 16 a.i b.i = true ∨ (Free1 a b ∧ Free1 b a)) → (∀ (c : Nat) o, ops.toList[c]? = some o → listed.getD c false = true → ∀ e ∈ o.after, Region.binds .any e = true → listed.getD e.on false = true) → Ch C E ops.toList l st st' → Rel w0 ω0 w g st vs →
      wpAnyIn (Fc ρ) nn P .any ops Q fuel listed ⟨vs, ds⟩ w := by
  have hready : ∀ (listed : Array Bool) (l : List Ent), listed.size = ops.size → (l.map (·.i)).Pairwise (· < ·) → (∀ i, i < ops.size → (listed.getD i true = false ↔ i ∈ l.map (·.i))) → (∀ e ∈ l, e.i < ops.size) →
      Region.ready .any ops listed = [] → l = [] := fun listed l hsz hs hmem hlt hr => by
    cases l with
    | nil => rfl
    | cons e l =>
      exfalso
      have hi := hlt e (by simp)
      have : e.i ∈ Region.ready .any ops listed := by
        refine mem_ready.2 ⟨(hmem e.i hi).2 (by simp), ops[e.i], Array.getElem?_eq_getElem hi, fun ed hed hb => ?_⟩
        have hon := hback e.i _ (Array.getElem?_eq_getElem hi) ed hed hb
        have hlt' : ed.on < ops.size := Nat.lt_trans hon hi
        have hnot : ¬ (ed.on ∈ (e :: l).map (·.i)) := fun hm => by
          simp only [List.map_cons, List.mem_cons] at hm
          rcases hm with hm | hm
          · omega
          · have := (List.pairwise_cons.1 hs).1 ed.on hm; simp only at this; omega
        have : ¬ (listed.getD ed.on true = false) := fun hh => hnot ((hmem _ hlt').1 hh)
        have hl2 : ed.on < listed.size := by omega
        simp [Array.getElem?_eq_getElem hl2] at this ⊢
        exact this
      rw [hr] at this; cases this
  intro fuel
  induction fuel with
  | zero =>
    intro listed l w g st vs hlen hsz hs hmem hlt hp hcl hch hR
    have hl : l = [] := List.eq_nil_of_length_eq_zero hlen
    subst hl
    cases hch
    refine ⟨?_, hn _ _ _ hR⟩
    cases hrd : Region.ready .any ops listed with
    | nil => rfl
    | cons i rs =>
      exfalso
      have hi : i ∈ Region.ready .any ops listed := by rw [hrd]; simp
      obtain ⟨h1, o, ho, _⟩ := mem_ready.1 hi
      have := (hmem i (Array.getElem?_eq_some_iff.1 ho).1).1 h1
      simp at this
  | succ fuel ih =>
    intro listed l w g st vs hlen hsz hs hmem hlt hp hcl hch hR
    refine ⟨fun hr => ?_, fun i hi => ?_⟩
    · have hl := hready listed l hsz hs hmem hlt hr
      subst hl
      cases hch
      exact hn _ _ _ hR
    · obtain ⟨h1, o, ho, hall⟩ := mem_ready.1 hi
      have hio := (Array.getElem?_eq_some_iff.1 ho).1
      obtain ⟨j, hj, hji⟩ := List.mem_map.1 ((hmem i hio).1 h1)
      obtain ⟨A, B, rfl⟩ := List.append_of_mem hj
      subst hji
      have hfree : ∀ a ∈ A, Free1 a j ∧ Free1 j a := fun a ha => by
        rcases (List.pairwise_append.1 hp).2.2 a ha j (by simp) with h | h
        · exfalso
          have hal := waitsT_listed hcl 16 a.i j.i o (by rw [Array.getElem?_toList]; exact ho) hall h
          have h4 := (hmem a.i (hlt a (by simp [ha]))).2 (by simp only [List.map_append, List.mem_append]; exact .inl (List.mem_map.2 ⟨a, ha, rfl⟩))
          have hl2 : a.i < listed.size := by rw [hsz]; exact hlt a (by simp [ha])
          simp [Array.getElem?_eq_getElem hl2] at hal h4
          rw [hal] at h4; cases h4
        · exact h
      obtain ⟨hy, hch'⟩ := hch.front hfree
      refine wpOp_of_Yi hE hR hy (fun w' g' vs' hR' => ih _ (A ++ B) w' g' _ vs' ?_ ?_ ?_ ?_ ?_ ?_ ?_ hch' hR')
      · simp at hlen ⊢; omega
      · simp [hsz]
      · exact hs.sublist (by simp)
      · intro i hi2
        by_cases hij : j.i = i
        · subst hij
          have : ¬ (j.i ∈ (A ++ B).map (·.i)) := fun hm => by
            simp only [List.map_append, List.mem_append] at hm
            simp only [List.map_append, List.map_cons] at hs
            obtain ⟨_, hs2, hs3⟩ := List.pairwise_append.1 hs
            rcases hm with hm | hm
            · have := hs3 _ hm j.i (by simp); omega
            · have := (List.pairwise_cons.1 hs2).1 _ hm; omega
          constructor
          · intro hh
            have hl2 : j.i < listed.size := by omega
            simp [hl2] at hh
          · intro hm; exact absurd hm this
        · rw [getD_set_ne true hij, hmem i hi2]
          simp only [List.map_append, List.map_cons, List.mem_append, List.mem_cons]
          constructor
          · rintro (h | h | h)
            · exact .inl h
            · exact absurd h.symm hij
            · exact .inr h
          · rintro (h | h)
            · exact .inl h
            · exact .inr (.inr h)
      · intro e he
        exact hlt e (by simp only [List.mem_append] at he; rcases he with h | h <;> simp [h])
      · exact hp.sublist (by simp)
      · intro c o2 ho2 hc e he hb
        have hmono : ∀ x, listed.getD x false = true → (listed.setIfInBounds j.i true).getD x false = true := fun x hx => by
          by_cases e : j.i = x
          · subst e
            have : j.i < listed.size := by
              by_cases h : j.i < listed.size
              · exact h
              · rw [Array.getD_eq_getD_getElem?, Array.getElem?_eq_none (by omega)] at hx; cases hx
            simp [Array.getD_eq_getD_getElem?, this]
          · rw [Array.getD_eq_getD_getElem?, Array.getElem?_setIfInBounds_ne e, ← Array.getD_eq_getD_getElem?]; exact hx
        by_cases e2 : j.i = c
        · subst e2
          rw [Array.getElem?_toList, ho] at ho2; cases ho2
          exact hmono _ (hall e he hb)
        · refine hmono _ (hcl c o2 ho2 ?_ e he hb)
          rw [Array.getD_eq_getD_getElem?, Array.getElem?_setIfInBounds_ne e2, ← Array.getD_eq_getD_getElem?] at hc; exact hc

theorem drawn_sound [VR : Vars] (hE : EnvOk P E C) {ρ : Option Nat} {nn : Nat} {ds : List Deferred} {id : Nat} {ops : Array Oper} {Q : Exit → Act → World → Prop} {k : St → Tree R} {r : R} {w : World} {g : Gh} {st : St} {vs : Array Value} (h : Rel w0 ω0 w g st vs)
    (hk : Den C (drawn E ops.toList st k) r) (hn : ∀ w' g' st' vs', Rel w0 ω0 w' g' st' vs' → Den C (k st') r → Q .normal ⟨vs', ds⟩ w') : (Code.region id ops true).wpIn (Fc ρ) nn P Q ⟨vs, ds⟩ w := by
  unfold drawn at hk
  obtain ⟨hb, hk⟩ := cond_den hk
  obtain ⟨l, st', h1, h2, h3⟩ := doDraw_chain ops.toList 0 st [] (fun j => by simp) hk
  obtain ⟨hp, h3⟩ := cond_den h3
  rw [List.nil_append] at hp
  have hlen : l.length = ops.size := by have := congrArg List.length h2; simpa using this
  have hmem : ∀ i, i ∈ l.map (·.i) ↔ i < ops.size := fun i => by rw [h2]; simp [List.mem_range']
  refine wpIn_region_any hE.mixed (wpAny_of_Ch hE (fun j o ho e he hbd => ?_) (fun w' g' vs' hR => hn w' g' st' vs' hR h3) ops.size (Array.replicate ops.size false) l _ g st vs hlen (by simp) ?_ (fun i hi => ?_) (fun e he => ?_) (pairsOk_spec l hp) (fun c o ho hc => by rw [Array.getD_eq_getD_getElem?, Array.getElem?_replicate] at hc; split at hc <;> cases hc) h1 h.drew)
  · have := backward_spec ops.toList 0 hb j o (by simpa using ho) e he hbd
    omega
  · rw [h2]; exact List.pairwise_lt_range'
  · rw [hmem]; simp [hi]
  · exact (hmem e.i).1 (List.mem_map.2 ⟨e, he, rfl⟩)

end
end Go.AM
