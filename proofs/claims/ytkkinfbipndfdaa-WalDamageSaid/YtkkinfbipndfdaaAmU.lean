/- Regions whose order is drawn: every order comes to what the text's order comes to. -/
import Derived.Test.YtkkinfbipndfdaaAmS
set_option linter.unusedVariables false
set_option linter.unusedSimpArgs false
namespace Go.AM
open Go.RowKit

/-! ### Changes that do not touch one another -/
theorem setAll_len : ∀ (ws : List (Nat × AVal)) (ts : List AVal), (setAll ts ws).length = ts.length
  | [], ts => rfl
  | p :: ws, ts => by simp [setAll, setAll_len ws]
theorem setAll_ne : ∀ {ws : List (Nat × AVal)} {ts : List AVal} {s : Nat}, (∀ p ∈ ws, p.1 ≠ s) → (setAll ts ws)[s]? = ts[s]?
  | [], ts, s, _ => rfl
  | p :: ws, ts, s, h => by
    simp only [setAll]
    rw [setAll_ne (fun q hq => h q (List.mem_cons_of_mem _ hq)), List.getElem?_set_ne (h p (by simp))]
theorem setAll_set : ∀ {ws : List (Nat × AVal)} {ts : List AVal} {s : Nat} {a : AVal}, (∀ p ∈ ws, p.1 ≠ s) → setAll (ts.set s a) ws = (setAll ts ws).set s a
  | [], ts, s, a, _ => rfl
  | p :: ws, ts, s, a, h => by
    simp only [setAll]
    rw [List.set_comm _ _ (Ne.symm (h p (by simp)))]
    exact setAll_set (fun q hq => h q (List.mem_cons_of_mem _ hq))
theorem setAll_comm : ∀ {w1 w2 : List (Nat × AVal)} {ts : List AVal}, (∀ p ∈ w1, ∀ q ∈ w2, p.1 ≠ q.1) → setAll (setAll ts w1) w2 = setAll (setAll ts w2) w1
  | [], w2, ts, _ => rfl
  | p :: w1, w2, ts, h => by
    simp only [setAll]
    rw [setAll_comm (fun a ha b hb => h a (List.mem_cons_of_mem _ ha) b hb)]
    rw [setAll_set (fun q hq => Ne.symm (h p (by simp) q hq))]
theorem setAll_app : ∀ {w1 w2 : List (Nat × AVal)} {ts : List AVal}, setAll ts (w1 ++ w2) = setAll (setAll ts w1) w2
  | [], w2, ts => rfl
  | p :: w1, w2, ts => by simp only [List.cons_append, setAll]; exact setAll_app
theorem setAll_map {f : AVal → AVal} : ∀ {ws : List (Nat × AVal)} {ts : List AVal}, (∀ p ∈ ws, f p.2 = p.2) → (setAll ts ws).map f = setAll (ts.map f) ws
  | [], ts, _ => rfl
  | p :: ws, ts, h => by
    simp only [setAll]
    rw [setAll_map (fun q hq => h q (List.mem_cons_of_mem _ hq)), List.map_set, h p (by simp)]

theorem kill_ne {d : Nat} {a : AVal} (h : ∀ q ∈ lptrOf a, q ≠ d) : kill d a = a := by
  have key : ∀ q, q ≠ d → Nat.beq q d = false := fun q hq => by
    cases hb : Nat.beq q d with
    | false => rfl
    | true => exact absurd (Nat.eq_of_beq_eq_true hb) hq
  cases a with
  | lptr q o => simp only [kill]; rw [key q (h q (by simp [lptrOf]))]; rfl
  | vref q o => simp only [kill]; rw [key q (h q (by simp [lptrOf]))]; rfl
  | _ => rfl
theorem kill_lptr {d q : Nat} {a : AVal} (hq : q ∈ lptrOf a) (e : q = d) : kill d a = .undef := by
  cases a with
  | lptr s o => simp [lptrOf] at hq; subst hq; simp [kill, e]
  | vref s o => simp [lptrOf] at hq; subst hq; simp [kill, e]
  | _ => simp [lptrOf] at hq
theorem kill_kill (d e : Nat) (a : AVal) : kill d (kill e a) = kill e (kill d a) := by
  cases a with
  | lptr q o =>
    simp only [kill]
    cases h1 : Nat.beq q e <;> cases h2 : Nat.beq q d <;> simp [kill, h1, h2]
  | vref q o =>
    simp only [kill]
    cases h1 : Nat.beq q e <;> cases h2 : Nat.beq q d <;> simp [kill, h1, h2]
  | _ => rfl
theorem killAll_comm (a b : Option Nat) (ts : List AVal) : killAll a (killAll b ts) = killAll b (killAll a ts) := by
  cases a with
  | none => rfl
  | some a => cases b with
    | none => rfl
    | some b => simp only [killAll, List.map_map]; exact List.map_congr_left fun x _ => kill_kill a b x
theorem killAll_len (a : Option Nat) (ts : List AVal) : (killAll a ts).length = ts.length := by cases a <;> simp [killAll]

theorem hits_false {ws : List (Nat × AVal)} {l : List Nat} (h : hits ws l = false) : ∀ p ∈ ws, ∀ s ∈ l, p.1 ≠ s := by
  intro p hp s hs e
  have : hits ws l = true := List.any_eq_true.2 ⟨p, hp, List.any_eq_true.2 ⟨s, hs, by rw [e]; exact Nat.beq_refl s⟩⟩
  rw [h] at this; cases this

/-- What an entry tells of the state that it was made in. -/
structure Fits (e : Ent) (st : St) : Prop where
  rd : ∀ s ∈ e.rd, ∀ q ∈ lptrOf (st.ts.getD s .undef), q ∈ e.pt
  ws : ∀ p ∈ e.δ.ws, ∀ q ∈ lptrOf p.2, q ∈ e.pt
  un : e.un = false → ∀ s ∈ e.rd, st.ts.getD s .undef ≠ .undef

structure Free1 (a b : Ent) : Prop where
  rd : ∀ p ∈ a.δ.ws, ∀ s ∈ b.rd, p.1 ≠ s
  ws : ∀ p ∈ a.δ.ws, ∀ q ∈ b.δ.ws, p.1 ≠ q.1
  H : a.δ.H = none ∨ (b.rH = false ∧ b.δ.H = none)
  kl : ∀ d, a.δ.kl = some d → d ∉ b.pt ∧ b.un = false

theorem free1_spec {a b : Ent} (h : a.free1 b = true) : Free1 a b := by
  simp only [Ent.free1, Bool.and_eq_true, Bool.not_eq_true', Bool.or_eq_true] at h
  obtain ⟨⟨⟨h1, h2⟩, h3⟩, h4⟩ := h
  refine ⟨hits_false h1, fun p hp q hq => hits_false h2 p hp q.1 (List.mem_map.2 ⟨q, hq, rfl⟩), ?_, fun d hd => ?_⟩
  · rcases h3 with h3 | h3
    · exact .inl (by cases hH : a.δ.H with | none => rfl | some _ => rw [hH] at h3; cases h3)
    · exact .inr ⟨h3.1, by cases hH : b.δ.H with | none => rfl | some _ => rw [hH] at h3; cases h3.2⟩
  · rw [hd] at h4
    simp only [Bool.and_eq_true, Bool.not_eq_true'] at h4
    refine ⟨fun hm => ?_, h4.2⟩
    have : b.pt.any (Nat.beq d) = true := List.any_eq_true.2 ⟨d, hm, Nat.beq_refl d⟩
    rw [h4.1] at this; cases this

theorem app_get_ne {δ : Delta} {st : St} {s : Nat} (h : ∀ p ∈ δ.ws, p.1 ≠ s) : (δ.app st).ts[s]? = (killAll δ.kl st.ts)[s]? := setAll_ne h

/-- What b reads does not turn by a, which b comes behind. -/
theorem agree_back {a b : Ent} {st : St} (h : Free1 a b) (hf : Fits b (a.δ.app st)) : Agree b.rd (a.δ.app st).ts st.ts := by
  intro s hs
  rw [app_get_ne fun p hp => h.rd p hp s hs]
  cases hk : a.δ.kl with
  | none => rfl
  | some d =>
    obtain ⟨h1, h2⟩ := h.kl d hk
    simp only [killAll, List.getElem?_map]
    cases hx : st.ts[s]? with
    | none => rfl
    | some x =>
      simp only [Option.map_some, Option.some.injEq]
      refine kill_ne fun q e he => ?_
      have hg : (a.δ.app st).ts[s]? = some (kill d x) := by
        rw [app_get_ne fun p hp => h.rd p hp s hs, hk]; simp [killAll, hx]
      have : kill d x = .undef := kill_lptr e he
      exact hf.un h2 s hs (by simp [List.getD, hg, this])

/-- What a reads does not turn by b, if b comes ahead of it. -/
theorem agree_fwd {a b : Ent} {st : St} (h : Free1 b a) (hf : Fits a st) : Agree a.rd st.ts (b.δ.app st).ts := by
  intro s hs
  rw [app_get_ne fun p hp => h.rd p hp s hs]
  cases hk : b.δ.kl with
  | none => rfl
  | some d =>
    obtain ⟨h1, h2⟩ := h.kl d hk
    simp only [killAll, List.getElem?_map]
    cases hx : st.ts[s]? with
    | none => rfl
    | some x =>
      simp only [Option.map_some, Option.some.injEq]
      refine (kill_ne fun q e he => ?_).symm
      subst he
      exact h1 (hf.rd s hs _ (by simpa [List.getD, hx] using e))

theorem app_comm {a b : Ent} {st : St} (h1 : Free1 a b) (h2 : Free1 b a) (ha : ∀ p ∈ a.δ.ws, ∀ q ∈ lptrOf p.2, q ∈ a.pt) (hb : ∀ p ∈ b.δ.ws, ∀ q ∈ lptrOf p.2, q ∈ b.pt) :
    b.δ.app (a.δ.app st) = a.δ.app (b.δ.app st) := by
  have hkill : ∀ {x y : Ent}, Free1 x y → (∀ p ∈ y.δ.ws, ∀ q ∈ lptrOf p.2, q ∈ y.pt) → ∀ ts, killAll x.δ.kl (setAll ts y.δ.ws) = setAll (killAll x.δ.kl ts) y.δ.ws := fun {x y} h hy ts => by
    cases hk : x.δ.kl with
    | none => rfl
    | some d =>
      simp only [killAll]
      exact setAll_map fun p hp => kill_ne fun q e he => (h.kl d hk).1 (he ▸ hy p hp q e)
  unfold Delta.app
  simp only
  rw [hkill h2 ha, hkill h1 hb, killAll_comm, setAll_comm fun p hp q hq => h1.ws p hp q hq]
  congr 1
  rcases h1.H with h | ⟨_, h⟩
  · rw [h]; rfl
  · rw [h]; rfl

section
variable {R : Type} {P : Program} {E : Env} {C : FuncId → List AVal → List HObj → AVal → List HObj → Prop} {all : List Oper}

def OpY (C : FuncId → List AVal → List HObj → AVal → List HObj → Prop) (E : Env) (mv : Bool) (o : Oper) (st : St) (v : AVal) (δ : Delta) : Prop :=
  Den C (dOp E mv o st fun v δ => .ret (v, δ)) (v, δ)

theorem den_dOp {mv : Bool} {o : Oper} {st : St} {k : AVal → Delta → Tree R} {r : R} (h : Den C (dOp E mv o st k) r) : ∃ v δ, OpY C E mv o st v δ ∧ Den C (k v δ) r := by
  have : dOp E mv o st k = (dOp E mv o st fun v δ => .ret (v, δ)).bind fun p => k p.1 p.2 := by rw [dOp_bind]; rfl
  rw [this] at h
  obtain ⟨a, h1, h2⟩ := den_bind _ (dOp_lone (k := fun v δ => Tree.ret (v, δ)) (fun _ _ => trivial)) h
  exact ⟨a.1, a.2, h1, h2⟩

theorem OpY.doOp {mv : Bool} {o : Oper} {st : St} {v : AVal} {δ : Delta} (hS : StrOk E.hint C) (h : OpY C E mv o st v δ) : Den C (AM.doOp E mv o st fun v st' => .ret (v, st')) (v, δ.app st) := by
  refine dOp_doOp hS ?_
  have : (dOp E mv o st fun v δ => .ret (v, δ.app st)) = (dOp E mv o st fun v δ => .ret (v, δ)).bind fun p => .ret (p.1, p.2.app st) := by rw [dOp_bind]; rfl
  rw [this]
  exact den_of_bind h (.ret _)

/-- What a guard's slot shows if the guarded operation is left out. -/
def Skips (A : AVal) (want : Bool) : Prop := (∃ b, A = .bool b ∧ b ≠ want) ∨ A = .tuple []

/-- Operation number i, at this state, makes this entry. -/
def Yi (C : FuncId → List AVal → List HObj → AVal → List HObj → Prop) (E : Env) (all : List Oper) (st : St) (e : Ent) : Prop :=
  ∃ o, all[e.i]? = some o ∧ ((o.guard = none ∧ ∃ v v' δ, OpY C E (isBase all o.dst) o st v δ ∧ SameV v v' ∧ e = entOf e.i [] st o v' δ) ∨
    ∃ j want d A, o.guard = some (j, want) ∧ (all[j]?).bind (·.dst) = some d ∧ st.ts.getD d .undef = A ∧
      ((A = .bool want ∧ ∃ v v' δ, OpY C E (isBase all o.dst) o st v δ ∧ SameV v v' ∧ e = entOf e.i [d] st o v' δ) ∨ (Skips A want ∧ e = entSkip e.i d o)))

theorem entOf_agree {i : Nat} {g : List Nat} {st st2 : St} {o : Oper} {v : AVal} {δ : Delta} (h : Agree (g ++ rdOf st.ts o.op) st.ts st2.ts) : entOf i g st2 o v δ = entOf i g st o v δ := by
  have hag : Agree (rdOf st.ts o.op) st.ts st2.ts := fun s hs => h s (List.mem_append_right _ hs)
  unfold entOf
  rw [rdOf_agree hag, rHOf_agree hag]
  have h1 : (g ++ rdOf st.ts o.op).flatMap (fun s => lptrOf (st2.ts.getD s .undef)) = (g ++ rdOf st.ts o.op).flatMap (fun s => lptrOf (st.ts.getD s .undef)) := by
    rw [List.flatMap_def, List.flatMap_def]
    congr 1
    exact List.map_congr_left fun s hs => by rw [h.getD hs]
  have h2 : (g ++ rdOf st.ts o.op).any (fun s => isUndef (st2.ts.getD s .undef)) = (g ++ rdOf st.ts o.op).any (fun s => isUndef (st.ts.getD s .undef)) := by
    rw [Bool.eq_iff_iff, List.any_eq_true, List.any_eq_true]
    constructor
    · rintro ⟨x, hx, e⟩; exact ⟨x, hx, by rw [h.getD hx]; exact e⟩
    · rintro ⟨x, hx, e⟩; exact ⟨x, hx, by rw [← h.getD hx]; exact e⟩
  rw [h1, h2]

theorem OpY.local {mv : Bool} {o : Oper} {st st2 : St} {v : AVal} {δ : Delta} (h : OpY C E mv o st v δ) (hag : Agree (rdOf st.ts o.op) st.ts st2.ts) (hH : rHOf st.ts o.op = true → st.H = st2.H) : OpY C E mv o st2 v δ := by
  unfold OpY at *
  rw [← dOp_local hag hH]; exact h

theorem Yi.local {st st2 : St} {e : Ent} (h : Yi C E all st e) (hag : Agree e.rd st.ts st2.ts) (hH : e.rH = true → st.H = st2.H) : Yi C E all st2 e := by
  obtain ⟨o, ho, h⟩ := h
  refine ⟨o, ho, ?_⟩
  rcases h with ⟨hg, v, v', δ, h1, hsv, h2⟩ | ⟨j, want, d, b, hg, hd, hb, h⟩
  · have hag' : Agree ([] ++ rdOf st.ts o.op) st.ts st2.ts := by rw [h2] at hag; exact hag
    have hH' : rHOf st.ts o.op = true → st.H = st2.H := by rw [h2] at hH; exact hH
    exact .inl ⟨hg, v, v', δ, h1.local (by simpa using hag') hH', hsv, by rw [entOf_agree hag']; exact h2⟩
  · right
    rcases h with ⟨hbw, v, v', δ, h1, hsv, h2⟩ | ⟨hbw, h2⟩
    · have hag' : Agree ([d] ++ rdOf st.ts o.op) st.ts st2.ts := by rw [h2] at hag; exact hag
      have hH' : rHOf st.ts o.op = true → st.H = st2.H := by rw [h2] at hH; exact hH
      refine ⟨j, want, d, b, hg, hd, by rw [← hag'.getD (by simp)]; exact hb, .inl ⟨hbw, v, v', δ, h1.local (fun s hs => hag' s (List.mem_append_right _ hs)) hH', hsv, by rw [entOf_agree hag']; exact h2⟩⟩
    · have hag' : Agree [d] st.ts st2.ts := by rw [h2] at hag; exact hag
      exact ⟨j, want, d, b, hg, hd, by rw [← hag'.getD (by simp)]; exact hb, .inr ⟨hbw, h2⟩⟩

theorem entOf_fits {i : Nat} {g : List Nat} {st : St} {o : Oper} {v : AVal} {δ : Delta} : Fits (entOf i g st o v δ) st := by
  refine ⟨fun s hs q e => List.mem_append_left _ (List.mem_flatMap.2 ⟨s, hs, e⟩), fun p hp q e => List.mem_append_right _ (List.mem_flatMap.2 ⟨p, hp, e⟩), fun hu s hs e => ?_⟩
  have : (entOf i g st o v δ).un = true := List.any_eq_true.2 ⟨s, hs, by rw [e]; rfl⟩
  rw [hu] at this; cases this

theorem Yi.fits {st : St} {e : Ent} (h : Yi C E all st e) : Fits e st := by
  obtain ⟨o, ho, h⟩ := h
  rcases h with ⟨hg, v, v', δ, h1, hsv, h2⟩ | ⟨j, want, d, b, hg, hd, hb, h⟩
  · rw [h2]; exact entOf_fits
  · rcases h with ⟨hbw, v, v', δ, h1, hsv, h2⟩ | ⟨hbw, h2⟩
    · rw [h2]; exact entOf_fits
    · rw [h2]
      refine ⟨fun s hs q e => ?_, fun p hp q e => ?_, fun hu s hs e => ?_⟩
      · simp only [entSkip, List.mem_singleton] at hs; subst hs; rcases hbw with ⟨b', e1, _⟩ | e1 <;> (rw [hb, e1] at e; simp [lptrOf] at e)
      · simp only [entSkip] at hp
        cases hdst : o.dst with
        | none => rw [hdst] at hp; simp [dstW] at hp
        | some d' => rw [hdst] at hp; simp only [dstW, List.mem_singleton] at hp; rw [hp] at e; simp [lptrOf] at e
      · simp only [entSkip, List.mem_singleton] at hs; subst hs; rcases hbw with ⟨b', e1, _⟩ | e1 <;> rw [hb, e1] at e <;> cases e

theorem Yi.swap {st : St} {a b : Ent} (ha : Yi C E all st a) (hb : Yi C E all (a.δ.app st) b) (h1 : Free1 a b) (h2 : Free1 b a) :
    Yi C E all st b ∧ Yi C E all (b.δ.app st) a ∧ b.δ.app (a.δ.app st) = a.δ.app (b.δ.app st) := by
  refine ⟨hb.local (agree_back h1 hb.fits) (fun hr => ?_), ha.local (agree_fwd h2 ha.fits) (fun hr => ?_), app_comm h1 h2 ha.fits.ws hb.fits.ws⟩
  · rcases h1.H with h | ⟨h, _⟩
    · simp [Delta.app, h]
    · rw [h] at hr; cases hr
  · rcases h2.H with h | ⟨h, _⟩
    · simp [Delta.app, h]
    · rw [h] at hr; cases hr

/-- The entries of a run, in this order. -/
def Ch (C : FuncId → List AVal → List HObj → AVal → List HObj → Prop) (E : Env) (all : List Oper) : List Ent → St → St → Prop
  | [], st, st' => st = st'
  | e :: l, st, st' => Yi C E all st e ∧ Ch C E all l (e.δ.app st) st'

theorem Ch.front {j : Ent} {B : List Ent} {st' : St} : ∀ {A : List Ent} {st : St}, (∀ a ∈ A, Free1 a j ∧ Free1 j a) → Ch C E all (A ++ j :: B) st st' → Yi C E all st j ∧ Ch C E all (A ++ B) (j.δ.app st) st'
  | [], st, _, h => h
  | a :: A, st, hf, h => by
    obtain ⟨ha, h⟩ := h
    obtain ⟨hj, h⟩ := Ch.front (fun x hx => hf x (List.mem_cons_of_mem _ hx)) h
    obtain ⟨h1, h2⟩ := hf a (by simp)
    obtain ⟨h3, h4, h5⟩ := ha.swap hj h1 h2
    exact ⟨h3, h4, by rw [← h5]; exact h⟩

end
end Go.AM
