/- Calls. -/
import Derived.Test.YtkkinfbipndfdaaAmLv
set_option linter.unusedVariables false
set_option linter.unusedSimpArgs false
namespace Go.AM
open Go.RowKit

/-- Arguments (results) that read as abstract values. -/
structure ArgsOk (w : World) (ω : Nat → Nat → Owner) (η : Nat → Nat) (N : Nat) (args : List AVal) (vals : Array Value) : Prop where
  len : vals.size = args.length
  rep : ∀ (i : Nat) a v, args[i]? = some a → vals[i]? = some v → Rep w (fun b o => ω b o = .imm) η N a v

/-- A slice that is handed over with its spare room: nobody holds that room; it lies in a new row. -/
def Owned (w : World) (ω' : Nat → Nat → Owner) (w' : World) (r : AVal) (v : Value) : Prop :=
  ∀ e n f, r = .slice .own e n f → ∃ ad cap, v = .slice ad n cap ∧ ∀ j, n * e ≤ j → j < cap * e → ∃ b o, ad = some ⟨b, o, none⟩ ∧ w.heap.size ≤ b ∧ ω' b (o + j) = .free ∧
    w'.frozen? ⟨b, o + j, none⟩ = false ∧ (∃ x, w'.cell? ⟨b, o + j, none⟩ = some x) ∧ ∀ o' id, ω' b o' ≠ .h id
theorem Owned.of_not {w : World} {ω' : Nat → Nat → Owner} {w' : World} {r : AVal} {v : Value} (h : isOwn r = false) : Owned w ω' w' r v := fun e n f hr => by rw [hr] at h; cases h

structure Post [VR : Vars] (w : World) (ω : Nat → Nat → Owner) (η : Nat → Nat) (H : List HObj) (w' : World) (ω' : Nat → Nat → Owner) (η' : Nat → Nat) (H' : List HObj) (r : AVal) (v : Value) : Prop where
  pre : Pre w' ω' η' H'
  rep : Rep w' (fun b o => ω' b o = .imm) η' H'.length r v
  len : H.length ≤ H'.length
  eta : ∀ id, id < H.length → η' id = η id
  past : ∀ b, b < w.heap.size → ∀ o, ((∀ id i, ω b o ≠ .ht id i) → ω' b o = ω b o) ∧ ∀ id, ω' b o = .h id → ω b o = .h id
  keeps : Keeps w ω w'
  own : Owned w ω' w' r v

/-- What the abstract function says, the Go function does. -/
def Sound [VR : Vars] (P : Program) (f : FuncId) (F : List AVal → List HObj → AVal → List HObj → Prop) : Prop :=
  ∀ args H r H', F args H r H' → ∀ vals w ω η, Pre w ω η H → ArgsOk w ω η H.length args vals →
    Calls P f vals w fun e w' => ∃ v ω' η', e = .returned v ∧ Post w ω η H w' ω' η' H' r v

theorem Rep.sub {w : World} {I : Nat → Nat → Prop} {η : Nat → Nat} {N : Nat} {a : AVal} {v : Value} (h : Rep w I η N a v) {I' : Nat → Nat → Prop} (hI : ∀ b o, I b o → I' b o) : Rep w I' η N a v :=
  h.mono (fun b o hb => ⟨hI b o hb, rfl⟩) (Nat.le_refl _) (fun _ _ => rfl)

theorem noRef_mem {cs : List AVal} (h : cs.all noRef = true) : ∀ c ∈ cs, noRef c = true := List.all_eq_true.1 h

theorem noRef_of0 {a : AVal} (h : noRef0 a = true) : noRef a = true := by
  cases a <;> first | exact h | rfl | (simp [noRef0] at h; done) | skip
  rename_i f caps
  have : caps = [] := by simpa [noRef0] using h
  subst this; rfl
theorem noRef_agg {a : AVal} (h : noRef a = true) : noRefAgg a = true := by
  cases a <;> first | exact h | (simp [noRef] at h)
theorem noRefArg_of {a : AVal} (h : noRefAgg a = true) : noRefArg a = true := by simp [noRefArg, h]
/-- A value without references reads the same over any abstract heap. -/
theorem Rep.noRefArg {w : World} {I : Nat → Nat → Prop} {η : Nat → Nat} {N : Nat} {a : AVal} {v : Value} (h : Rep w I η N a v) (η' : Nat → Nat) (N' : Nat) : AM.noRefArg a = true → Rep w I η' N' a v := by
  induction h with
  | bool b => exact fun _ => .bool b
  | int k n => exact fun _ => .int k n
  | str s => exact fun _ => .str s
  | nilIface => exact fun _ => .nilIface
  | nilFunc => exact fun _ => .nilFunc
  | nilMap => exact fun _ => .nilMap
  | nilPtr => exact fun _ => .nilPtr
  | func f cs vs hl hr ih =>
    intro h
    refine .func f cs vs hl (fun i c v hc hv => ih i c v hc hv ?_)
    have hall : cs.all noRef1 = true := by
      simp only [AM.noRefArg, noRefAgg, AM.noRef, noRef1, Bool.or_eq_true] at h
      rcases h with h | h
      · exact h
      · rw [List.isEmpty_iff] at h; subst h; rfl
    simp [AM.noRefArg, List.all_eq_true.1 hall c (List.mem_of_getElem? hc)]
  | agg cs vs hl hr hp ih =>
    intro h
    have h : cs.all AM.noRef = true := by simpa [AM.noRefArg, noRefAgg, noRef1] using h
    exact .agg cs vs hl (fun i c v hc hv => ih i c v hc hv (noRefArg_of (noRef_agg (noRef_mem h c (List.mem_of_getElem? hc))))) hp
  | tuple cs vs hl hr ih => intro h; simp [AM.noRefArg, noRefAgg, AM.noRef, noRef1] at h
  | slice sp esz n f ad cap vals hc hx hn ha hl hp hr ih =>
    intro h
    refine .slice sp esz n f ad cap vals hc hx hn ha hl hp (fun i hi j c hcc => ih i hi j c hcc (noRefArg_of ?_))
    have h1 := (hp i hi).2
    have h2 := List.mem_of_getElem? hcc
    cases hf : f i <;> rw [hf] at h1 h2 <;> first
      | (simp [noRefAgg, AM.noRef] at h1; done)
      | (simp only [AVal.cells, List.mem_singleton] at h2; subst h2; exact h1)
      | (simp only [noRefAgg] at h1; have := noRef_mem h1 c h2; cases c <;> first | exact this | (simp [AM.noRef] at this))
  | rptr c b o vals hp ha hr ih =>
    intro h
    refine .rptr c b o vals hp ha (fun j x hx => ih j x hx (noRefArg_of (noRef_agg (noRef_of0 ?_))))
    have h : noRef1 (.rptr c) = true := by simpa [AM.noRefArg, noRefAgg, AM.noRef] using h
    have hm := List.mem_of_getElem? hx
    cases c <;> first
      | (simp only [noRef1] at h; simp only [AVal.cells, List.mem_singleton] at hm; subst hm; exact h)
      | (simp only [noRef1] at h; exact List.all_eq_true.1 h x hm)
  | map id h => intro h; simp [AM.noRefArg, noRefAgg, AM.noRef, noRef1] at h
  | href id off h => intro h; simp [AM.noRefArg, noRefAgg, AM.noRef, noRef1] at h
  | mslice id off n esz ag cap h hc hag => intro h; simp [AM.noRefArg, noRefAgg, AM.noRef, noRef1] at h
  | iface t a v hr ih => intro h; simp [AM.noRefArg, noRefAgg, AM.noRef, noRef1] at h
  | yld id h => intro h; simp [AM.noRefArg, noRefAgg, AM.noRef, noRef1] at h
  | err t v => exact fun _ => .err t v
theorem Rep.noRef {w : World} {I : Nat → Nat → Prop} {η : Nat → Nat} {N : Nat} {a : AVal} {v : Value} (h : Rep w I η N a v) (η' : Nat → Nat) (N' : Nat) (hn : noRefAgg a = true) : Rep w I η' N' a v := h.noRefArg η' N' (noRefArg_of hn)
theorem Rep.noRefAll {w : World} {I : Nat → Nat → Prop} {η : Nat → Nat} {N : Nat} {a : AVal} {v : Value} (h : Rep w I η N a v) (η' : Nat → Nat) (N' : Nat) (hn : AM.noRefAll a = true) : Rep w I η' N' a v := by
  cases a with
  | tuple cs =>
    cases h with
    | tuple _ vs hl hr =>
      exact .tuple cs vs hl (fun i c v hc hv => (hr i c v hc hv).noRef η' N' (List.all_eq_true.1 hn c (List.mem_of_getElem? hc)))
  | _ => exact h.noRef η' N' hn

section
variable {w : World} {ω : Nat → Nat → Owner} {η : Nat → Nat} {H : List HObj}

/-- The run over an empty heap. -/
theorem Sound.callIn [VR : Vars] {P : Program} {f : FuncId} {F : List AVal → List HObj → AVal → List HObj → Prop} (h : Sound P f F) : Sound P f (AM.CallIn F) := by
  intro args H r H' hF vals w ω η hpre hargs
  rcases hF with ⟨hn, hr, hHe, H0, hrun⟩ | hF
  · rw [hHe]
    -- nothing but the result comes out
    have hω0 : ∀ b o, (if ω b o = .imm then Owner.imm else .free) = .imm ↔ ω b o = .imm := fun b o => by by_cases e : ω b o = .imm <;> simp [e]
    have hf0 : ∀ b o, (if ω b o = .imm then Owner.imm else .free) ≠ .free → ω b o = .imm := fun b o hb => by by_cases e : ω b o = .imm <;> simp_all
    have hp0 : Pre w (fun b o => if ω b o = .imm then .imm else .free) η [] := by
      refine ⟨⟨fun id o ho => by simp at ho, fun b o hb => hpre.live b o (by rw [hf0 b o hb]; simp), fun b o h1 h2 => absurd ((hω0 b o).2 (hf0 b o h1)) h2, fun b o hb => ?_, fun b o o' id hb => ?_, fun b o id hb => ?_, ?_⟩, fun b o => ?_, fun b ob hb => by
        obtain ⟨v1, v2⟩ := hpre.vars b ob hb
        exact ⟨v1, fun o => by rcases v2 o with e | e <;> simp [e]⟩⟩
      · by_cases e : ω b o = .imm <;> simp [e] at hb
      · by_cases e : ω b o = .imm <;> simp [e] at hb
      · by_cases e : ω b o = .imm <;> simp [e] at hb
      · exact Locks.nil
      · by_cases e : ω b o = .imm <;> simp [e]
    have ha0 : ArgsOk w (fun b o => if ω b o = .imm then .imm else .free) η 0 args vals :=
      ⟨hargs.len, fun i a v h1 h2 => ((hargs.rep i a v h1 h2).noRefArg η 0 (List.all_eq_true.1 hn a (List.mem_of_getElem? h1))).sub (fun b o hb => (hω0 b o).2 hb)⟩
    refine (h args [] r H0 hrun vals w _ η hp0 ha0).mono ?_
    rintro e w' ⟨v, ω', η', rfl, hpost⟩
    have hk : ∀ b, b < w.heap.size → w'.heap[b]? = w.heap[b]? := fun b hb => hpost.keeps.block b hb (fun o id hh => by
      by_cases e : ω b o = .imm <;> simp [e] at hh) (fun o id i hh => by
      by_cases e : ω b o = .imm <;> simp [e] at hh)
    · skip
      have hωn : ∀ b o, (if b < w.heap.size then ω b o else if ω' b o = .imm then .imm else .free) ≠ .free → (b < w.heap.size ∧ ω b o ≠ .free) ∨ (¬ b < w.heap.size ∧ ω' b o = .imm) := fun b o hb => by
        by_cases e : b < w.heap.size
        · left; rw [if_pos e] at hb; exact ⟨e, hb⟩
        · right; rw [if_neg e] at hb
          by_cases e2 : ω' b o = .imm
          · exact ⟨e, e2⟩
          · rw [if_neg e2] at hb; exact absurd rfl hb
      have hsame : Same (fun _ => False) w ⟨ω, η, fun _ => 0⟩ H.length w' ⟨fun b o => if b < w.heap.size then ω b o else if ω' b o = .imm then .imm else .free, η, fun _ => 0⟩ :=
        ⟨fun b o hb _ => by
          have := hpre.live b o hb
          exact ⟨by show (if _ then _ else _) = _; rw [if_pos this], (cell_of_heap (hk b this) o).1⟩, fun b hb _ => hk b hb, fun _ _ => rfl⟩
      refine ⟨v, fun b o => if b < w.heap.size then ω b o else if ω' b o = .imm then .imm else .free, η, rfl, ⟨⟨⟨?_, ?_, ?_, ?_, ?_, ?_, hpre.lock⟩, ?_, fun b ob hb => by
        obtain ⟨v1, v2⟩ := hpre.vars b ob hb
        have hlt : b < w.heap.size := (Array.getElem?_eq_some_iff.1 v1).1
        exact ⟨(hk b hlt).trans v1, fun o => by rw [if_pos hlt]; exact v2 o⟩⟩, ?_, Nat.le_refl _, fun _ _ => rfl, fun b hb o => ⟨fun _ => by rw [if_pos hb], fun id hh => by rw [if_pos hb] at hh; exact hh⟩, ⟨hpost.keeps.os, hpost.keeps.tape, hpost.keeps.output, hpost.keeps.size, fun b hb _ _ => hk b hb, fun b o hb _ _ => cell_of_heap (hk b hb) o, hpre.vars⟩, ?_⟩⟩
      · exact fun id o ho => hsame.objs (by simp) (Nat.le_refl _) hpre.toBase ho (by simp) (by simp) (by simp)
      · intro b o hb
        rcases hωn b o hb with ⟨h1, _⟩ | ⟨_, h2⟩
        · have := hpost.keeps.size; omega
        · exact hpost.pre.live b o (by rw [h2]; simp)
      · intro b o h1 h2 hq
        rcases hωn b o h1 with ⟨h3, h4⟩ | ⟨h3, h4⟩
        · rw [(cell_of_heap (hk b h3) o).2]
          exact hpre.soft b o h4 (fun e => h2 (by rw [if_pos h3]; exact e)) (fun id e => hq id (by rw [if_pos h3]; exact e))
        · exact absurd (by rw [if_neg h3, if_pos h4]) h2
      · intro b o hb
        by_cases h3 : b < w.heap.size
        · rw [if_pos h3] at hb
          obtain ⟨v, hv⟩ := hpre.tail b o hb
          exact ⟨v, by rw [(cell_of_heap (hk b h3) o).1]; exact hv⟩
        · rw [if_neg h3] at hb; split at hb <;> (rcases hb with ⟨s, i, hb⟩ | ⟨s, i, hb⟩ <;> cases hb)
      · intro b o o' id hb
        by_cases h3 : b < w.heap.size
        · rw [if_pos h3] at hb ⊢; exact hpre.sep b o o' id hb
        · rw [if_neg h3] at hb; split at hb <;> cases hb
      · intro b o id hb
        by_cases h3 : b < w.heap.size
        · rw [if_pos h3] at hb; exact hpre.low b o id hb
        · rw [if_neg h3] at hb; split at hb <;> (rcases hb with hb | ⟨i, hb⟩ <;> cases hb)
      · intro b o
        by_cases h3 : b < w.heap.size
        · rw [if_pos h3]; exact hpre.none b o
        · rw [if_neg h3]; split
          · exact .inr (.inl rfl)
          · exact .inl rfl
      · refine (hpost.rep.noRefAll η H.length hr).sub (fun b o hb => ?_)
        by_cases h3 : b < w.heap.size
        · rw [if_pos h3]
          have := (hpost.past b h3 o).1 (fun id i hh => by by_cases e : ω b o = .imm <;> simp [e] at hh)
          rw [hb] at this; exact (hω0 b o).1 this.symm
        · rw [if_neg h3, if_pos hb]
      · intro e n f he
        obtain ⟨ad, cap, h1, h2⟩ := hpost.own e n f he
        refine ⟨ad, cap, h1, fun j h3 h4 => ?_⟩
        obtain ⟨b, o, h5, h6, h7, h8, h9, h10⟩ := h2 j h3 h4
        refine ⟨b, o, h5, h6, ?_, h8, h9, fun o' id hh => ?_⟩
        · simp only; rw [if_neg (by omega), if_neg (by rw [h7]; simp)]
        · simp only at hh; rw [if_neg (by omega)] at hh; split at hh <;> cases hh
  · exact h args H r H' hF vals w ω η hpre hargs

end

theorem Rep.canon1 {w : World} {I : Nat → Nat → Prop} {η : Nat → Nat} {N : Nat} {a : AVal} {v : Value} (h : Rep w I η N a v) (ti : Option TI) (T : TypeId → Option TI) : Rep w I η N (AM.canon1 ti T a) v := by
  cases h with
  | slice sp esz n f ad cap vals hc hx hn ha hl hp hr =>
    have hsh : Rep w I η N (.slice .shared esz n f) (.slice ad n cap) := .slice .shared esz n f ad cap vals hc (by simp) (by simp) ha hl hp hr
    cases sp with
    | nil =>
      simp only [AM.canon1]
      split
      · split
        · rename_i i _
          cases hb : Nat.beq n 0
          · exact hsh
          · have h0 := Nat.eq_of_beq_eq_true hb
            subst h0
            exact .slice .shared i.size 0 _ ad cap vals hc (by simp) (by simp) (by omega) (by omega) (by omega) (by omega)
        · exact hsh
      · exact hsh
    | _ => exact hsh
  | agg cs vs hl hr hp => exact .agg cs vs hl hr hp
  | bool b => exact .bool b
  | int k n => exact .int k n
  | str s => exact .str s
  | nilIface => exact .nilIface
  | nilFunc => exact .nilFunc
  | nilMap => exact .nilMap
  | nilPtr => exact .nilPtr
  | func f cs vs hl hr => exact .func f cs vs hl hr
  | tuple cs vs hl hr => exact .tuple cs vs hl hr
  | rptr c b o vals hp ha hr => exact .rptr c b o vals hp ha hr
  | map id h => exact .map id h
  | href id off h => exact .href id off h
  | mslice id off n esz ag cap h hc hag => exact .mslice id off n esz ag cap h hc hag
  | iface t a v hr => exact .iface t a v hr
  | yld id h => exact .yld id h
  | err t v => exact .err t v
theorem plain_canon1 (ti : Option TI) (T : TypeId → Option TI) (a : AVal) : plain (canon1 ti T a) = plain a := by
  cases a with
  | slice sp e n f =>
    cases sp with
    | nil =>
      simp only [canon1]
      split
      · split
        · cases Nat.beq n 0 <;> rfl
        · rfl
      · rfl
    | _ => rfl
  | _ => rfl
theorem Rep.canon {w : World} {I : Nat → Nat → Prop} {η : Nat → Nat} {N : Nat} {a : AVal} {v : Value} (h : Rep w I η N a v) (ti : Option TI) (T : TypeId → Option TI) : Rep w I η N (AM.canon ti T a) v := by
  cases a with
  | agg cs =>
    cases h with
    | agg _ vs hl hr hp =>
      refine .agg _ vs (by simpa using hl) (fun i c v hc hv => ?_) (fun c hc => ?_)
      · simp only [List.getElem?_map, Option.map_eq_some_iff] at hc
        obtain ⟨c0, hc0, rfl⟩ := hc
        exact (hr i c0 v hc0 hv).canon1 _ _
      · obtain ⟨c0, h0, rfl⟩ := List.mem_map.1 hc
        rw [plain_canon1]; exact hp _ h0
  | _ => exact h.canon1 ti T
theorem Rep.argOf {w : World} {I : Nat → Nat → Prop} {η : Nat → Nat} {N : Nat} {a : AVal} {v : Value} (h : Rep w I η N a v) (keep : Bool) (ti : Option TI) (T : TypeId → Option TI) : Rep w I η N (AM.argOf keep ti T a) v := by
  have hc := h.canon ti T
  unfold AM.argOf
  split
  · rename_i e n f
    cases keep with
    | false => exact hc
    | true =>
      simp only [cond_true]
      split
      · rename_i sp e' n' f' heq
        rw [heq] at hc
        cases h with
        | slice _ _ _ _ ad cap vals h1 h2 h3 h4 h5 h6 h7 =>
          obtain ⟨e1, e2⟩ := h3 rfl
          subst e1
          cases hc with
          | slice _ _ _ _ _ _ vals2 g1 g2 g3 g4 g5 g6 g7 => exact .slice .nil e' _ f' none cap vals2 g1 (by simp) (fun _ => ⟨rfl, e2⟩) g4 g5 g6 g7
      · exact hc
  · exact hc

theorem Rep.disR {w : World} {I : Nat → Nat → Prop} {η : Nat → Nat} {N : Nat} {a : AVal} {v : Value} (h : Rep w I η N a v) : Rep w I η N (AM.disR a) v := by
  cases a <;> first | exact h | exact h.disAgg
theorem isOwn_disR (a : AVal) : isOwn (disR a) = false := by
  cases a with
  | tuple vs => rfl
  | slice sp e n f => exact isOwn_disAgg (.slice sp e n f)
  | _ => rfl

section
variable {R : Type} {P : Program} {E : Env} {w0 : World} {ω0 : Entry} {w : World} {g : Gh} {st : St} {vs : Array Value}
  {o : Oper} {r : R} {next : Act → World → Prop} {Q : Exit → Act → World → Prop} {mv : Bool}

/-- The caller's owners as a callee sees them. -/
def down (ω : Nat → Nat → Owner) : Nat → Nat → Owner := fun b o => match ω b o with | .imm => .imm | .h id => .h id | .ht id i => .ht id i | _ => .free
def isHt : Owner → Bool
  | .ht _ _ => true
  | _ => false
def up (n : Nat) (ω ω' : Nat → Nat → Owner) : Nat → Nat → Owner := fun b o => if b < n ∧ isHt (ω b o) = false then ω b o else ω' b o

theorem down_imm {ω : Nat → Nat → Owner} {b o : Nat} : down ω b o = .imm ↔ ω b o = .imm := by unfold down; split <;> simp_all
theorem down_h {ω : Nat → Nat → Owner} {b o id : Nat} : down ω b o = .h id ↔ ω b o = .h id := by unfold down; split <;> simp_all
theorem down_ht {ω : Nat → Nat → Owner} {b o id i : Nat} : down ω b o = .ht id i ↔ ω b o = .ht id i := by unfold down; split <;> simp_all
theorem down_free {ω : Nat → Nat → Owner} {b o : Nat} (h : down ω b o ≠ .free) : ω b o ≠ .free ∧ down ω b o = ω b o := by unfold down at *; split <;> simp_all
theorem isHt_of {o : Owner} (h : ∀ id i, o ≠ .ht id i) : isHt o = false := by cases o <;> first | rfl | exact absurd rfl (h _ _)
theorem not_isHt {o : Owner} (h : isHt o = false) : ∀ id i, o ≠ .ht id i := fun id i e => by rw [e] at h; cases h
theorem isHt_ex {o : Owner} (h : isHt o = true) : ∃ id i, o = .ht id i := by cases o <;> first | (cases h; done) | exact ⟨_, _, rfl⟩

theorem Rel.pre [VR : Vars] (h : Rel w0 ω0 w g st vs) : Pre w (down g.ω) g.η st.H := by
  have hB := h.base
  refine ⟨⟨fun id o ho => (hB.heap id o ho).sub (fun b o hb => down_imm.2 hb) (fun b o id hb => down_h.2 hb) (fun b o id i hb => down_ht.2 hb), fun b o hb => hB.live b o (down_free hb).1, fun b o h1 h2 h3 => hB.soft b o (down_free h1).1 (fun e => h2 (down_imm.2 e)) (fun id e => h3 id (down_h.2 e)), fun b o hb => ?_, fun b o o' id hb => ?_, fun b o id hb => hB.low b o id ?_, hB.lock⟩, fun b o => ?_, h.keeps.varsOk (fun b hb o hno => ?_)⟩
  · rcases hb with ⟨s, i, hb⟩ | ⟨id, i, hb⟩
    · unfold down at hb; split at hb <;> cases hb
    · exact hB.tail b o (.inr ⟨id, i, down_ht.1 hb⟩)
  · rcases hB.sep b o o' id (down_h.1 hb) with e | e
    · exact .inl (down_h.2 e)
    · right; unfold down; rw [e]
  · rcases hb with hb | ⟨i, hb⟩
    · exact .inl (down_h.1 hb)
    · exact .inr ⟨i, down_ht.1 hb⟩
  · unfold down; split
    · exact .inr (.inl rfl)
    · exact .inr (.inr (.inl ⟨_, rfl⟩))
    · exact .inr (.inr (.inr ⟨_, _, rfl⟩))
    · exact .inl rfl
  · have e := (h.past b hb o).1 hno
    unfold down
    rw [e]
    cases ω0.ω b o <;> simp

/-- The caller's state behind a call. -/
theorem Rel.after [VR : Vars] (h : Rel w0 ω0 w g st vs) {w' : World} {ω' : Nat → Nat → Owner} {η' : Nat → Nat} {H' : List HObj} {r : AVal} {v : Value} (hp : Post w (down g.ω) g.η st.H w' ω' η' H' r v) :
    Rel w0 ω0 w' ⟨up w.heap.size g.ω ω', η', g.β⟩ { st with H := H' } vs ∧ Rep w' (Gh.I ⟨up w.heap.size g.ω ω', η', g.β⟩) η' H'.length r v := by
  have hB := h.base
  have hdn : ∀ {b o}, isHt (g.ω b o) = false → ∀ id i, down g.ω b o ≠ .ht id i := fun {b o} hh id i e => not_isHt hh id i (down_ht.1 e)
  have hcs : ∀ b o, (b < w.heap.size ∧ isHt (g.ω b o) = false ∧ up w.heap.size g.ω ω' b o = g.ω b o ∧ ω' b o = down g.ω b o) ∨ (¬ (b < w.heap.size ∧ isHt (g.ω b o) = false) ∧ up w.heap.size g.ω ω' b o = ω' b o) := fun b o => by
    by_cases hb : b < w.heap.size ∧ isHt (g.ω b o) = false
    · exact .inl ⟨hb.1, hb.2, by unfold up; rw [if_pos hb], (hp.past b hb.1 o).1 (hdn hb.2)⟩
    · exact .inr ⟨hb, by unfold up; rw [if_neg hb]⟩
  have himm : ∀ b o, up w.heap.size g.ω ω' b o = .imm ↔ ω' b o = .imm := fun b o => by
    rcases hcs b o with ⟨_, _, e1, e2⟩ | ⟨_, e1⟩
    · rw [e1, e2]; exact down_imm.symm
    · rw [e1]
  have hhh : ∀ b o id, up w.heap.size g.ω ω' b o = .h id ↔ ω' b o = .h id := fun b o id => by
    rcases hcs b o with ⟨_, _, e1, e2⟩ | ⟨_, e1⟩
    · rw [e1, e2]; exact down_h.symm
    · rw [e1]
  have hht : ∀ b o id i, up w.heap.size g.ω ω' b o = .ht id i ↔ ω' b o = .ht id i := fun b o id i => by
    rcases hcs b o with ⟨_, _, e1, e2⟩ | ⟨_, e1⟩
    · rw [e1, e2]; exact down_ht.symm
    · rw [e1]
  have hkc : ∀ b o, b < w.heap.size → isHt (g.ω b o) = false → (∀ id, g.ω b o ≠ .h id) → w'.cell? ⟨b, o, none⟩ = w.cell? ⟨b, o, none⟩ ∧ w'.frozen? ⟨b, o, none⟩ = w.frozen? ⟨b, o, none⟩ := fun b o hb h1 h2 =>
    hp.keeps.cell b o hb (fun id e => h2 id (down_h.1 e)) (hdn h1)
  have hsame : Same (fun q => (∃ id, q = .h id) ∨ isHt q = true) w g st.H.length w' ⟨up w.heap.size g.ω ω', η', g.β⟩ := by
    refine ⟨fun b o hb hX => ?_, fun b hb ⟨o, id, e, hX⟩ => absurd (.inl ⟨id, rfl⟩) hX, hp.eta⟩
    have hlt := hB.live b o hb
    have h1 : isHt (g.ω b o) = false := by cases hh : isHt (g.ω b o) with | false => rfl | true => exact absurd (.inr hh) hX
    exact ⟨by show up _ _ _ b o = _; unfold up; rw [if_pos ⟨hlt, h1⟩], (hkc b o hlt h1 (fun id e => hX (.inl ⟨id, e⟩))).1⟩
  have hmine : ∀ b o, (¬ (b < w.heap.size ∧ isHt (g.ω b o) = false)) → ((∃ s, ω' b o = .box s) ∨ ∃ s i, ω' b o = .tail s i) → False := fun b o _ hb => by
    rcases hp.pre.none b o with e | e | ⟨id, e⟩ | ⟨id, i, e⟩ <;> (rw [e] at hb; rcases hb with ⟨s, h⟩ | ⟨s, i, h⟩ <;> cases h)
  refine ⟨⟨⟨fun id o ho => (hp.pre.heap id o ho).sub (fun b o hb => (himm b o).2 hb) (fun b o id hb => (hhh b o id).2 hb) (fun b o id i hb => (hht b o id i).2 hb), fun b o hb => ?_, fun b o h1 h2 h3 => ?_, fun b o hb => ?_, fun b o o' id hb => ?_, fun b o id hb => hp.pre.low b o id ?_, hp.pre.lock⟩, h.len, fun s a x h1 h2 => hsame.slot (by simp [isHt]) hp.len (by simp [isHt]) (by simp [isHt]) (fun _ => rfl) (fun _ _ => rfl) (h.slot s a x h1 h2), fun b o hb => ?_, fun b hb o => ?_, ?_, ?_⟩, hp.rep.sub (fun b o hb => (himm b o).2 hb)⟩
  · change up _ _ _ b o ≠ _ at hb
    rcases hcs b o with ⟨hlt, _, e1, e2⟩ | ⟨_, e1⟩
    · have := hp.keeps.size; omega
    · rw [e1] at hb; exact hp.pre.live b o hb
  · change up _ _ _ b o ≠ _ at h1; change up _ _ _ b o ≠ _ at h2
    rcases hcs b o with ⟨hlt, hnt, e1, e2⟩ | ⟨_, e1⟩
    · rw [e1] at h1 h2
      by_cases hh : ∃ id, g.ω b o = .h id
      · obtain ⟨id, e⟩ := hh
        have e3 : ω' b o = .h id := by rw [e2]; exact down_h.2 e
        exact hp.pre.soft b o (by rw [e3]; simp) (by rw [e3]; simp) (fun id' e4 => h3 id' (by show up _ _ _ b o = _; rw [e1, e]; rw [e3] at e4; exact e4))
      · rw [(hkc b o hlt hnt (fun id e => hh ⟨id, e⟩)).2]; exact hB.soft b o h1 h2 (fun id e => absurd ⟨id, e⟩ hh)
    · rw [e1] at h1 h2; exact hp.pre.soft b o h1 h2 (fun id e => h3 id (by show up _ _ _ b o = _; rw [e1]; exact e))
  · change ((∃ s i, up _ _ _ b o = _) ∨ ∃ id i, up _ _ _ b o = _) at hb
    rcases hcs b o with ⟨hlt, hnt, e1, e2⟩ | ⟨hne, e1⟩
    · rw [e1] at hb
      obtain ⟨v, hv⟩ := hB.tail b o hb
      have hk := hkc b o hlt hnt (fun id e => by rw [e] at hb; rcases hb with ⟨s, i, hb⟩ | ⟨s, i, hb⟩ <;> cases hb)
      exact ⟨v, hk.1.trans hv⟩
    · rw [e1] at hb
      rcases hb with ⟨s, i, hb⟩ | hb
      · exact (hmine b o hne (.inr ⟨s, i, hb⟩)).elim
      · exact hp.pre.tail b o (.inr hb)
  · change up _ _ _ b o = _ at hb
    show up _ _ _ b o' = _ ∨ up _ _ _ b o' = _
    have hb1 := (hhh b o id).1 hb
    by_cases hlt : b < w.heap.size
    · rcases hB.sep b o o' id (down_h.1 ((hp.past b hlt o).2 id hb1)) with e | e
      · left; unfold up; rw [if_pos ⟨hlt, by rw [e]; rfl⟩]; exact e
      · right; unfold up; rw [if_pos ⟨hlt, by rw [e]; rfl⟩]; exact e
    · rcases hp.pre.sep b o o' id hb1 with e | e
      · left; exact (hhh b o' id).2 e
      · right; unfold up; rw [if_neg (fun hh => hlt hh.1)]; exact e
  · rcases hb with hb | ⟨i, hb⟩
    · exact .inl ((hhh b o id).1 hb)
    · exact .inr ⟨i, (hht b o id i).1 hb⟩
  · have hb' : (∃ s, up w.heap.size g.ω ω' b o = .box s) ∨ ∃ s i, up w.heap.size g.ω ω' b o = .tail s i := hb
    rcases hcs b o with ⟨hlt, hnt, e1, e2⟩ | ⟨hne, e1⟩
    · rw [e1] at hb'; exact h.mine b o hb'
    · rw [e1] at hb'; exact (hmine b o hne hb').elim
  · have hlt : b < w.heap.size := by have := h.keeps.size; omega
    refine ⟨fun hno => ?_, fun id hh => ?_⟩
    · have e0 := (h.past b hb o).1 hno
      show up _ _ _ b o = _
      unfold up; rw [if_pos ⟨hlt, by rw [e0]; exact isHt_of hno⟩]; exact e0
    · exact (h.past b hb o).2 id (down_h.1 ((hp.past b hlt o).2 id ((hhh b o id).1 hh)))
  · refine ⟨hp.keeps.os.trans h.keeps.os, hp.keeps.tape.trans h.keeps.tape, hp.keeps.output.trans h.keeps.output, Nat.le_trans h.keeps.size hp.keeps.size, fun b hb h1 h2 => ?_, fun b o hb h1 h2 => ?_, h.keeps.vars⟩
    · have hlt : b < w.heap.size := by have := h.keeps.size; omega
      refine (hp.keeps.block b hlt (fun o id e => ?_) (fun o id i e => ?_)).trans (h.keeps.block b hb h1 h2)
      · exact h1 o id ((h.past b hb o).2 id (down_h.1 e))
      · have e2 := down_ht.1 e
        rw [(h.past b hb o).1 (h2 o)] at e2
        exact h2 o id i e2
    · have hlt : b < w.heap.size := by have := h.keeps.size; omega
      have e0 := (h.past b hb o).1 h2
      obtain ⟨h3, h4⟩ := hkc b o hlt (by rw [e0]; exact isHt_of h2) (fun id e => h1 id (by rw [← e0]; exact e))
      obtain ⟨h5, h6⟩ := h.keeps.cell b o hb h1 h2
      exact ⟨h3.trans h5, h4.trans h6⟩
  · exact ⟨Nat.le_trans h.old.1 hp.len, fun id hid => (hp.eta id (Nat.lt_of_lt_of_le hid h.old.1)).trans (h.old.2 id hid)⟩

/-- The caller takes the spare room over. -/
theorem Rel.takeOwn [VR : Vars] (h : Rel w0 ω0 w g st vs) (d : Nat) {e n : Nat} {f : Nat → AVal} {ad : Option Addr} {cap : Nat} (hr : Rep w g.I g.η st.H.length (.slice .own e n f) (.slice ad n cap))
    (ho : ∀ j, n * e ≤ j → j < cap * e → ∃ b o, ad = some ⟨b, o, none⟩ ∧ w0.heap.size ≤ b ∧ g.ω b (o + j) = .free ∧ w.frozen? ⟨b, o + j, none⟩ = false ∧ (∃ x, w.cell? ⟨b, o + j, none⟩ = some x) ∧ ∀ o' id, g.ω b o' ≠ .h id) :
    ∃ g', Rel w0 ω0 w g' (putD st (some d) (.slice .own e n f)) (Act.put ⟨vs, []⟩ (some d) (.slice ad n cap)).tmps := by
  by_cases hc : cap * e ≤ n * e
  · exact ⟨g, h.put (some d) (fun s => RepSlot.of_pl ⟨hr, fun e' n' f' he => by cases he; exact ⟨ad, cap, rfl, fun j h1 h2 => by omega⟩⟩)⟩
  · obtain ⟨b, o, hab, hb0, _, _, ⟨x0, hx0⟩, hnh⟩ := ho (n * e) (Nat.le_refl _) (by omega)
    have ho' : ∀ j, n * e ≤ j → j < cap * e → g.ω b (o + j) = .free ∧ w.frozen? ⟨b, o + j, none⟩ = false ∧ (∃ x, w.cell? ⟨b, o + j, none⟩ = some x) := fun j h1 h2 => by
      obtain ⟨b', o', e1, _, e3, e4, e5, _⟩ := ho j h1 h2
      rw [hab] at e1; cases e1
      exact ⟨e3, e4, e5⟩
    let ω' : Nat → Nat → Owner := fun b' o' => if b' = b ∧ o + n * e ≤ o' ∧ o' < o + cap * e then .tail d 0 else g.ω b' o'
    let g' : Gh := { g with ω := ω' }
    have hin : ∀ b' o', (b' = b ∧ o + n * e ≤ o' ∧ o' < o + cap * e) → g.ω b' o' = .free ∧ w.frozen? ⟨b', o', none⟩ = false ∧ (∃ x, w.cell? ⟨b', o', none⟩ = some x) := fun b' o' ⟨e1, e2, e3⟩ => by
      subst e1
      have := ho' (o' - o) (by omega) (by omega)
      rwa [show o + (o' - o) = o' by omega] at this
    have hω : ∀ b' o', (ω' b' o' = .tail d 0 ∧ (b' = b ∧ o + n * e ≤ o' ∧ o' < o + cap * e)) ∨ (ω' b' o' = g.ω b' o' ∧ ¬ (b' = b ∧ o + n * e ≤ o' ∧ o' < o + cap * e)) := fun b' o' => by
      by_cases hh : b' = b ∧ o + n * e ≤ o' ∧ o' < o + cap * e
      · left; exact ⟨by simp only [ω']; rw [if_pos hh], hh⟩
      · right; exact ⟨by simp only [ω']; rw [if_neg hh], hh⟩
    have hsame : Same (fun _ => False) w g st.H.length w g' := ⟨fun b' o' hb _ => ⟨by
        show ω' b' o' = _
        rcases hω b' o' with ⟨_, hh⟩ | ⟨e1, _⟩
        · exact absurd (hin b' o' hh).1 hb
        · exact e1, rfl⟩, fun _ _ _ => rfl, fun _ _ => rfl⟩
    have hblt : b < w.heap.size := by
      rcases Nat.lt_or_ge b w.heap.size with h1 | h1
      · exact h1
      · have : w.heap[b]? = none := Array.getElem?_eq_none h1
        simp [World.cell?, this] at hx0
    refine ⟨g', ⟨fun id q hq => hsame.objs (by simp) (Nat.le_refl _) h.base hq (by simp) (by simp) (by simp), fun b' o' hb => ?_, fun b' o' h1 h2 h3 => ?_, fun b' o' hb => ?_, fun b' o1 o2 id hb => ?_, fun b' o1 id hb => ?_, h.base.lock⟩, by simp [putD, Act.put, h.len], fun s a v h1 h2 => ?_, fun b' o' hb => ?_, fun b' hb o' => ?_, h.keeps, h.old⟩
    · rcases hω b' o' with ⟨_, hh⟩ | ⟨e1, _⟩
      · rw [hh.1]; exact hblt
      · exact h.base.live b' o' (by rw [← e1]; exact hb)
    · rcases hω b' o' with ⟨_, hh⟩ | ⟨e1, _⟩
      · exact (hin b' o' hh).2.1
      · exact h.base.soft b' o' (by rw [← e1]; exact h1) (by rw [← e1]; exact h2) (fun id e2 => h3 id (by show ω' b' o' = _; rw [e1]; exact e2))
    · rcases hω b' o' with ⟨_, hh⟩ | ⟨e1, _⟩
      · exact (hin b' o' hh).2.2
      · exact h.base.tail b' o' (by
          have hb' : (∃ s i, ω' b' o' = .tail s i) ∨ ∃ id i, ω' b' o' = .ht id i := hb
          rw [e1] at hb'; exact hb')
    · have hb' : ω' b' o1 = .h id := hb
      rcases hω b' o1 with ⟨e1, _⟩ | ⟨e1, _⟩
      · rw [e1] at hb'; cases hb'
      · rw [e1] at hb'
        have hne : b' ≠ b := fun e2 => hnh o1 id (by rw [← e2]; exact hb')
        have e3 : ω' b' o2 = g.ω b' o2 := by simp only [ω']; rw [if_neg (fun hh => hne hh.1)]
        show ω' b' o2 = _ ∨ ω' b' o2 = _
        rw [e3]; exact h.base.sep b' o1 o2 id hb'
    · have hb' : ω' b' o1 = .h id ∨ ∃ i, ω' b' o1 = .ht id i := hb
      rcases hω b' o1 with ⟨e1, _⟩ | ⟨e1, _⟩
      · rw [e1] at hb'; rcases hb' with hb' | ⟨i, hb'⟩ <;> cases hb'
      · rw [e1] at hb'; exact h.base.low b' o1 id hb'
    · simp only [putD, List.getElem?_set] at h1
      simp only [Act.put] at h2
      rw [getElem?_setIf] at h2
      by_cases ed : d = s
      · subst ed
        rw [if_pos rfl] at h1
        by_cases hlt : d < st.ts.length
        · rw [if_pos hlt] at h1
          rw [if_pos ⟨rfl, by rw [← h.len]; exact hlt⟩] at h2
          cases h1; cases h2
          refine RepSlot.of_pl ⟨hsame.rep (by simp) (Nat.le_refl _) hr, fun e' n' f' he => ?_⟩
          cases he
          exact ⟨ad, cap, rfl, fun j h3 h4 => ⟨b, o, hab, by show ω' b (o + j) = _; simp only [ω']; rw [if_pos ⟨trivial, by omega, by omega⟩]⟩⟩
        · rw [if_neg hlt] at h1; cases h1
      · rw [if_neg ed] at h1; rw [if_neg (fun hh => ed hh.1)] at h2
        exact hsame.slot (by simp) (Nat.le_refl _) (by simp) (by simp) (fun _ => rfl) (fun _ _ => rfl) (h.slot s a v h1 h2)
    · have hb' : (∃ s, ω' b' o' = .box s) ∨ ∃ s i, ω' b' o' = .tail s i := hb
      rcases hω b' o' with ⟨_, hh⟩ | ⟨e1, _⟩
      · rw [hh.1]; exact .inl hb0
      · rw [e1] at hb'; exact h.mine b' o' hb'
    · have e3 : ω' b' o' = g.ω b' o' := by
        simp only [ω']; rw [if_neg (fun hh => by have := hh.1; omega)]
      show ((_ → ω' b' o' = _) ∧ ∀ id, ω' b' o' = _ → _)
      rw [e3]; exact h.past b' hb o'
theorem Rel.afterOwn [VR : Vars] (h : Rel w0 ω0 w g st vs) {w' : World} {ω' : Nat → Nat → Owner} {η' : Nat → Nat} {H' : List HObj} {r : AVal} {v : Value} (hp : Post w (down g.ω) g.η st.H w' ω' η' H' r v) (d : Option Nat) :
    ∃ g', Rel w0 ω0 w' g' (putD { st with H := H' } d (ownR r)) (Act.put ⟨vs, []⟩ d v).tmps := by
  obtain ⟨hR, hrep⟩ := h.after hp
  have hz := h.keeps.size
  by_cases hc : ∃ e n f, r = .slice .own e n f
  · obtain ⟨e, n, f, rfl⟩ := hc
    cases d with
    | none => exact ⟨_, hR⟩
    | some d =>
      obtain ⟨ad, cap, hv, hj⟩ := hp.own e n f rfl
      subst hv
      refine hR.takeOwn d hrep (fun j h1 h2 => ?_)
      obtain ⟨b, o, h3, h4, h5, h6, h7, h8⟩ := hj j h1 h2
      have hup : ∀ o', up w.heap.size g.ω ω' b o' = ω' b o' := fun o' => by unfold up; rw [if_neg (fun hh => by have := hh.1; omega)]
      exact ⟨b, o, h3, by omega, by show up _ _ _ b (o + j) = _; rw [hup]; exact h5, h6, h7, fun o' id => by show up _ _ _ b o' ≠ _; rw [hup]; exact h8 o' id⟩
  · have : ownR r = disR r := by
      unfold ownR; split
      · exact absurd ⟨_, _, _, rfl⟩ hc
      · rfl
    rw [this]
    exact ⟨_, hR.put_ev (hrep.disR.ev) (isOwn_disR _)⟩

end
end Go.AM
