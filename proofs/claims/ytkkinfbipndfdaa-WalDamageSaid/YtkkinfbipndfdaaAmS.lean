/- Regions whose order is drawn: one run in the text's order speaks for every order. -/
import Derived.Test.YtkkinfbipndfdaaAmO2
import Derived.LoopN
import Derived.Orders
set_option linter.unusedVariables false
set_option linter.unusedSimpArgs false
namespace Go.AM
open Go.RowKit

def Tree.bind {R S : Type} : Tree R → (R → Tree S) → Tree S
  | .none, _ => .none
  | .ret r, f => f r
  | .cnd c t e, f => .cnd c (t.bind f) (e.bind f)
  | .call g args H k, f => .call g args H fun v H' => (k v H').bind f
  | .same a k, f => .same a fun v => (k v).bind f
  | .sameH H k, f => .sameH H fun v => (k v).bind f
  | .any t e, f => .any (t.bind f) (e.bind f)
  | .join st k, f => .join st fun v => (k v).bind f
  | .all n k, f => .all n fun i => (k i).bind f

/-- No place at which both ways must answer alike. -/
def Tree.lone {R : Type} : Tree R → Prop
  | .none => True
  | .ret _ => True
  | .cnd _ t e => t.lone ∧ e.lone
  | .call _ _ _ k => ∀ v H, (k v H).lone
  | .same _ k => ∀ v, (k v).lone
  | .sameH _ k => ∀ v, (k v).lone
  | .any _ _ => False
  | .join _ k => ∀ v, (k v).lone
  | .all _ _ => False

theorem den_bind {R S : Type} {C : FuncId → List AVal → List HObj → AVal → List HObj → Prop} {f : R → Tree S} {r : S} (t : Tree R) : t.lone → Den C (t.bind f) r → ∃ a, Den C t a ∧ Den C (f a) r := by
  induction t with
  | none => exact fun _ h => (noDen h).elim
  | ret a => exact fun _ h => ⟨a, .ret a, h⟩
  | any t e => exact fun h => h.elim
  | all n k => exact fun h => h.elim
  | join st k ih =>
    intro hl h
    obtain ⟨a, h1, h2⟩ := ih st (hl st) (Den.joinInv (k := fun v => (k v).bind f) h)
    exact ⟨a, .join h1, h2⟩
  | cnd c t e iht ihe =>
    intro hl h
    rcases Den.inv (t := t.bind f) (e := e.bind f) h with ⟨h0, h3⟩ | ⟨h0, h3⟩
    · obtain ⟨a, h1, h2⟩ := iht hl.1 h3; rw [h0]; exact ⟨a, .cndT h1, h2⟩
    · obtain ⟨a, h1, h2⟩ := ihe hl.2 h3; rw [h0]; exact ⟨a, .cndF h1, h2⟩
  | call g args H k ih =>
    intro hl h
    obtain ⟨v, H', hc, h⟩ := Den.callInv (k := fun v H' => (k v H').bind f) h
    obtain ⟨a, h1, h2⟩ := ih v H' (hl v H') h
    exact ⟨a, .call hc h1, h2⟩
  | same a k ih =>
    intro hl h
    obtain ⟨v, hs, h⟩ := Den.sameInv (k := fun v => (k v).bind f) h
    obtain ⟨a, h1, h2⟩ := ih v (hl v) h
    exact ⟨a, .same hs h1, h2⟩
  | sameH a k ih =>
    intro hl h
    obtain ⟨v, hs, h⟩ := Den.sameHInv (k := fun v => (k v).bind f) h
    obtain ⟨a, h1, h2⟩ := ih v (hl v) h
    exact ⟨a, .sameH hs h1, h2⟩

theorem den_of_bind {R S : Type} {C : FuncId → List AVal → List HObj → AVal → List HObj → Prop} {f : R → Tree S} {r : S} {a : R} {t : Tree R} (h1 : Den C t a) (h2 : Den C (f a) r) : Den C (t.bind f) r := by
  induction h1 with
  | ret a => exact h2
  | cndT h ih => exact .cndT (ih h2)
  | cndF h ih => exact .cndF (ih h2)
  | call hc h ih => exact .call hc (ih h2)
  | same hs h ih => exact .same hs (ih h2)
  | sameH hs h ih => exact .sameH hs (ih h2)
  | any _ _ ih1 ih2 => exact .any (ih1 h2) (ih2 h2)
  | join h ih => exact .join (ih h2)
  | all h ih => exact .all fun i hi => ih i hi h2

theorem bind_bif {R S : Type} {f : R → Tree S} (c : Bool) (x y : Tree R) : (bif c then x else y).bind f = bif c then x.bind f else y.bind f := by cases c <;> rfl

section
variable {R S : Type} {E : Env} {mv : Bool} {o : Oper} {st : St}

theorem vecMv_bind {x : Operand} {d : Option Nat} {k : AVal → St → Tree R} {els : Tree R} {f : R → Tree S} : (vecMv st x d k els).bind f = vecMv st x d (fun v s => (k v s).bind f) (els.bind f) := by
  unfold vecMv
  split
  · split <;> rfl
  · rfl
theorem vecMv_none {x : Operand} {d : Option Nat} {k : AVal → St → Tree R} {els : Tree R} (h : (vecAt st.ts x).isSome = false) : vecMv st x d k els = els := by
  unfold vecMv
  split
  · rename_i hx; rw [hx] at h; cases h
  · rfl
theorem appendTo_vec {ts : List AVal} {x : Operand} {sz : Nat} {q : Nat × (Nat → AVal)} (h : appendTo sz (ev ts x) = some q) : vecAt ts x = none := by
  cases hv : vecAt ts x with
  | none => rfl
  | some p =>
    obtain ⟨t, e, n, cs⟩ := p
    obtain ⟨rfl, ht⟩ := vecAt_some hv
    simp only [ev, ht, slotVal, appendTo] at h
    cases h
theorem doOp_bind {k : AVal → St → Tree R} {f : R → Tree S} : (doOp E mv o st k).bind f = doOp E mv o st (fun v s => (k v s).bind f) := by
  unfold doOp
  repeat' split
  all_goals (first | rfl | (simp only [bind_bif, Tree.bind]; done) | (simp only [bind_bif, vecMv_bind]; done) | (simp only [bind_bif, Tree.bind]; repeat' split) | skip)
  all_goals (first | rfl | (simp only [bind_bif, Tree.bind]; done) | skip)

theorem dOp_bind {k : AVal → Delta → Tree R} {f : R → Tree S} : (dOp E mv o st k).bind f = dOp E mv o st (fun v s => (k v s).bind f) := by
  unfold dOp
  repeat' split
  all_goals (first | rfl | exact doOp_bind | (simp only [bind_bif, Tree.bind, doOp_bind]; done) | (simp only [bind_bif, Tree.bind]; repeat' split) | skip)
  all_goals (first | rfl | exact doOp_bind | (simp only [bind_bif, Tree.bind, doOp_bind]; done) | skip)

theorem lone_bif {c : Bool} {x y : Tree R} : (bif c then x else y).lone ↔ (c = true → x.lone) ∧ (c = false → y.lone) := by cases c <;> simp

theorem vecMv_lone {x : Operand} {d : Option Nat} {k : AVal → St → Tree R} {els : Tree R} (hk : ∀ v s, (k v s).lone) (he : els.lone) : (vecMv st x d k els).lone := by
  unfold vecMv
  split
  · split
    · exact hk _ _
    · trivial
  · exact he
theorem doOp_lone {k : AVal → St → Tree R} (hk : ∀ v s, (k v s).lone) : (doOp E mv o st k).lone := by
  unfold doOp
  repeat' split
  all_goals (first | trivial | exact vecMv_lone hk (hk _ _) | (simp only [lone_bif, Tree.lone, hk, implies_true, and_true, true_and]; done) | (simp only [lone_bif, Tree.lone, hk, implies_true, and_true, true_and]; exact fun _ => vecMv_lone hk (hk _ _)) | (simp only [lone_bif, Tree.lone, hk, implies_true, and_true, true_and]; repeat' split) | skip)
  all_goals (first | trivial | (simp only [lone_bif, Tree.lone, hk, implies_true, and_true, true_and]; done) | skip)

theorem dOp_lone {k : AVal → Delta → Tree R} (hk : ∀ v s, (k v s).lone) : (dOp E mv o st k).lone := by
  unfold dOp
  repeat' split
  all_goals (first | trivial | exact doOp_lone (fun v _ => hk v {}) | (simp only [lone_bif, Tree.lone, hk, implies_true, and_true, true_and, doOp_lone (fun v (_ : St) => hk v {})]; done) | (simp only [lone_bif, Tree.lone, hk, implies_true, and_true, true_and]; repeat' split) | skip)
  all_goals (first | trivial | exact doOp_lone (fun v _ => hk v {}) | (simp only [lone_bif, Tree.lone, hk, implies_true, and_true, true_and, doOp_lone (fun v (_ : St) => hk v {})]; done) | skip)

/-- An operation that changes nothing but its own slot. -/
def isR : Op → Bool
  | .pick .. | .binOp .. | .unOp .. | .convert .. | .fieldAddr .. | .field .. | .indexAddr .. | .index .. | .lookup .. | .extract .. | .build .. | .buildSlice .. | .slice .. | .load .. => true
  | .call c => match c.callee with
    | .builtin .len | .builtin .min | .builtin .max => true
    | _ => false
  | _ => false

theorem doOp_R {k : AVal → St → Tree R} (h : isR o.op = true) : doOp E false o st k = doOp E false o st (fun v _ => k v st) := by
  unfold isR at h
  split at h
  all_goals (first | (simp at h; done) | skip)
  all_goals (rename_i ho; unfold doOp; simp only [ho, cond_false, Bool.false_and])
  rename_i c
  split at h
  all_goals (first | (simp at h; done) | (rename_i hc; simp only [hc]))

theorem disW_app {x : Operand} : ({ ws := disW st.ts x } : Delta).app st = { st with ts := disown st.ts x } := by
  cases x <;> rfl
theorem nil_app : ({} : Delta).app st = st := rfl

/-- What an operation of a drawn region does is what it does. -/
theorem dOp_doOp {C : FuncId → List AVal → List HObj → AVal → List HObj → Prop} (hS : StrOk E.hint C) {k : AVal → St → Tree R} {r : R} (h : Den C (dOp E mv o st (fun v δ => k v (δ.app st))) r) : Den C (doOp E mv o st k) r := by
  have key : ∀ {mv}, isR o.op = true → (∀ t a, o.op = .load t a → mv = false) → (∀ t l p, o.op ≠ .buildSlice t l p) → Den C (doOp E false o st fun v _ => k v st) r → Den C (doOp E mv o st k) r := fun {mv} h1 h2 h3 h => by
    rw [← doOp_R h1] at h
    have : doOp E mv o st k = doOp E false o st k := by
      cases ho : o.op with
      | load t a => rw [h2 t a ho]
      | buildSlice t l p => exact absurd ho (h3 t l p)
      | move x => rw [ho] at h1; simp [isR] at h1
      | _ => first | (unfold doOp; simp only [ho]; done) | (rw [ho] at h1; simp [isR] at h1; done)
    rw [this]; exact h
  cases ho : o.op with
  | pick => refine key (by rw [ho]; rfl) (fun t a e => by rw [ho] at e; cases e) (fun t l p e => by rw [ho] at e; cases e) ?_; unfold dOp at h; simp only [ho, nil_app] at h; exact h
  | binOp => refine key (by rw [ho]; rfl) (fun t a e => by rw [ho] at e; cases e) (fun t l p e => by rw [ho] at e; cases e) ?_; unfold dOp at h; simp only [ho, nil_app] at h; exact h
  | unOp => refine key (by rw [ho]; rfl) (fun t a e => by rw [ho] at e; cases e) (fun t l p e => by rw [ho] at e; cases e) ?_; unfold dOp at h; simp only [ho, nil_app] at h; exact h
  | convert => refine key (by rw [ho]; rfl) (fun t a e => by rw [ho] at e; cases e) (fun t l p e => by rw [ho] at e; cases e) ?_; unfold dOp at h; simp only [ho, nil_app] at h; exact h
  | fieldAddr => refine key (by rw [ho]; rfl) (fun t a e => by rw [ho] at e; cases e) (fun t l p e => by rw [ho] at e; cases e) ?_; unfold dOp at h; simp only [ho, nil_app] at h; exact h
  | field => refine key (by rw [ho]; rfl) (fun t a e => by rw [ho] at e; cases e) (fun t l p e => by rw [ho] at e; cases e) ?_; unfold dOp at h; simp only [ho, nil_app] at h; exact h
  | indexAddr => refine key (by rw [ho]; rfl) (fun t a e => by rw [ho] at e; cases e) (fun t l p e => by rw [ho] at e; cases e) ?_; unfold dOp at h; simp only [ho, nil_app] at h; exact h
  | index => refine key (by rw [ho]; rfl) (fun t a e => by rw [ho] at e; cases e) (fun t l p e => by rw [ho] at e; cases e) ?_; unfold dOp at h; simp only [ho, nil_app] at h; exact h
  | lookup => refine key (by rw [ho]; rfl) (fun t a e => by rw [ho] at e; cases e) (fun t l p e => by rw [ho] at e; cases e) ?_; unfold dOp at h; simp only [ho, nil_app] at h; exact h
  | extract => refine key (by rw [ho]; rfl) (fun t a e => by rw [ho] at e; cases e) (fun t l p e => by rw [ho] at e; cases e) ?_; unfold dOp at h; simp only [ho, nil_app] at h; exact h
  | build => refine key (by rw [ho]; rfl) (fun t a e => by rw [ho] at e; cases e) (fun t l p e => by rw [ho] at e; cases e) ?_; unfold dOp at h; simp only [ho, nil_app] at h; exact h
  | buildSlice t len ps =>
    unfold dOp at h; simp only [ho] at h
    cases hm : (mv && mutAt E o.dst) with
    | true => rw [hm, cond_true] at h; cases h
    | false =>
      rw [hm, cond_false] at h
      simp only [nil_app] at h
      rw [← doOp_R (by rw [ho]; rfl)] at h
      have : doOp E mv o st k = doOp E false o st k := by unfold doOp; simp only [ho, hm, Bool.false_and]
      rw [this]; exact h
  | slice => refine key (by rw [ho]; rfl) (fun t a e => by rw [ho] at e; cases e) (fun t l p e => by rw [ho] at e; cases e) ?_; unfold dOp at h; simp only [ho, nil_app] at h; exact h
  | move x =>
    unfold dOp at h; unfold doOp
    simp only [ho, nil_app, disW_app] at h ⊢
    cases mv with
    | false => exact h
    | true =>
      simp only [cond_true] at h ⊢
      cases hv : (vecAt st.ts x).isSome with
      | true => rw [hv] at h; exact (noDen h).elim
      | false => rw [hv] at h; rw [vecMv_none hv]; exact h
  | assign x =>
    unfold dOp at h; unfold doOp
    simp only [ho, nil_app, disW_app] at h ⊢
    cases hv : (vecAt st.ts x).isSome with
    | true => rw [hv] at h; exact (noDen h).elim
    | false => rw [hv] at h; rw [vecMv_none hv]; exact h
  | alloc t =>
    unfold dOp at h; unfold doOp
    simp only [ho] at h ⊢
    split at h
    · rename_i i d h1 h2
      try simp only [h1, h2]
      cases hb : E.esc.contains d <;> rw [hb] at h
      · exact h
      · exact (noDen h).elim
    · exact (noDen h).elim
  | load t a =>
    cases hm : mv with
    | false =>
      rw [hm] at h
      refine key (by rw [ho]; rfl) (fun t a e => rfl) (fun t l p e => by rw [ho] at e; cases e) ?_
      unfold dOp at h; simp only [ho, cond_false, nil_app] at h; exact h
    | true =>
      rw [hm] at h
      unfold dOp at h; unfold doOp
      simp only [ho, cond_true] at h ⊢
      split at h
      · rename_i i s off h1 h2
        try simp only [h1, h2]
        split at h
        · rename_i cs h3
          try simp only [h3]
          obtain ⟨hb, h⟩ := cond_den h
          simp only [Bool.and_eq_true, Bool.not_eq_true'] at hb
          rw [hb.1, hb.2]
          exact h
        · exact (noDen h).elim
      · rename_i i id off h1 h2
        try simp only [h1, h2]
        split at h
        · rename_i cs h3
          try simp only [h3]
          cases ha : i.agg <;> rw [ha] at h
          · obtain ⟨hb, h⟩ := h.chk
            rw [hb]
            exact .cndT h
          · exact (noDen h).elim
        · exact (noDen h).elim
      · exact (noDen h).elim
  | store t a x =>
    unfold dOp at h; unfold doOp
    simp only [ho] at h ⊢
    split at h
    · exact (noDen h).elim
    · rename_i hd
      try simp only [hd]
      split at h
      · rename_i i hi
        try simp only [hi]
        obtain ⟨hb, h⟩ := cond_den h
        rw [hb, cond_true]
        split at h
        · rename_i s off h1
          try simp only [h1]
          split at h
          · rename_i cs h2
            try simp only [h2]
            obtain ⟨hb, h⟩ := cond_den h
            rw [hb, cond_true]
            have : (Delta.app { ws := disW st.ts x ++ [(s, .lbox (over cs off (ownCells (ev st.ts x))))] } st) = { st with ts := (disown st.ts x).set s (.lbox (over cs off (ownCells (ev st.ts x)))) } := by cases x <;> rfl
            rw [← this]; exact h
          · exact (noDen h).elim
        · rename_i id off h1
          try simp only [h1]
          split at h
          · rename_i cs h2
            try simp only [h2]
            obtain ⟨hb, h⟩ := h.chk
            rw [hb]
            have : (Delta.app { ws := disW st.ts x, H := some (st.H.set id (.arr (over cs off ((ownCells (ev st.ts x)).map normV)))) } st) = { st with ts := disown st.ts x, H := st.H.set id (.arr (over cs off ((ownCells (ev st.ts x)).map normV))) } := by cases x <;> rfl
            rw [← this]
            exact .cndT h
          · exact (noDen h).elim
        · exact (noDen h).elim
      · exact (noDen h).elim
  | mapUpdate t m q v =>
    unfold dOp at h; unfold doOp
    simp only [ho] at h ⊢
    split at h
    · exact (noDen h).elim
    · rename_i hd
      try simp only [hd]
      split at h
      · rename_i hi
        try simp only [hi]
        obtain ⟨hb, h⟩ := cond_den h
        rw [hb, cond_true]
        split at h
        · rename_i id h1
          try simp only [h1]
          split at h
          · rename_i es h2
            try simp only [h2]
            obtain ⟨hb, h⟩ := h.chk
            rw [hb]
            exact .cndT h
          · exact (noDen h).elim
        · exact (noDen h).elim
      · exact (noDen h).elim
  | call c =>
    cases hc : c.callee with
    | value f =>
      unfold dOp at h; unfold doOp
      simp only [ho, hc] at h ⊢
      split at h
      · rename_i g caps hf
        simp only [hf]
        obtain ⟨hb, h⟩ := cond_den h
        obtain ⟨hb2, h⟩ := cond_den h
        rw [hb, cond_true, hb2, cond_true]
        split at h
        · rename_i b hstr
          obtain ⟨hb3, h⟩ := h.chk
          obtain ⟨T, e, id, h1, h2, h3⟩ := strAt_some hstr
          rw [h2]
          exact .call (hS.str g T e h1 st.H id b h3 (of_decide_eq_true hb3)) h
        · split at h
          · rename_i b hstr
            obtain ⟨T, e, id, h1, h2, h3⟩ := strAt_some hstr
            rw [h2]
            exact .call (hS.len g T e h1 st.H id b h3) h
          · exact h
      · exact (noDen h).elim
    | invoke a b => unfold dOp at h; simp only [ho, hc] at h; exact (noDen h).elim
    | builtin b =>
      cases b with
      | len => refine key (by rw [ho]; simp [isR, hc]) (fun t a e => by rw [ho] at e; cases e) (fun t l p e => by rw [ho] at e; cases e) ?_; unfold dOp at h; simp only [ho, hc, nil_app] at h; exact h
      | min => refine key (by rw [ho]; simp [isR, hc]) (fun t a e => by rw [ho] at e; cases e) (fun t l p e => by rw [ho] at e; cases e) ?_; unfold dOp at h; simp only [ho, hc, nil_app] at h; exact h
      | max => refine key (by rw [ho]; simp [isR, hc]) (fun t a e => by rw [ho] at e; cases e) (fun t l p e => by rw [ho] at e; cases e) ?_; unfold dOp at h; simp only [ho, hc, nil_app] at h; exact h
      | append =>
        unfold dOp at h; unfold doOp
        simp only [ho, hc, disW_app] at h ⊢
        split at h
        · rename_i x y t u h1 h2
          try simp only [h1, h2]
          split at h
          · rename_i h3 h4
            try simp only [h3, h4]
            split at h
            · rename_i i hi
              try simp only [hi]
              split at h
              · rename_i n f ok esz' m g h5 h6
                have h7 := appendTo_vec h5
                try simp only [h5, h6, h7]
                obtain ⟨hb, h⟩ := cond_den h
                simp only [Bool.and_eq_true, Bool.not_eq_true'] at hb
                rw [hb.1.1, hb.1.2, hb.2]
                exact h
              · exact (noDen h).elim
            · exact (noDen h).elim
          · exact (noDen h).elim
        · exact (noDen h).elim
      | _ => unfold dOp at h; simp only [ho, hc] at h; exact (noDen h).elim
  | _ => unfold dOp at h; simp only [ho] at h; exact (noDen h).elim

end

/-! ### What is read -/
def Agree (l : List Nat) (ts ts2 : List AVal) : Prop := ∀ s ∈ l, ts[s]? = ts2[s]?

theorem Agree.getD {l : List Nat} {ts ts2 : List AVal} (h : Agree l ts ts2) {s : Nat} (hs : s ∈ l) : ts.getD s .undef = ts2.getD s .undef := by simp only [List.getD, h s hs]
theorem Agree.ev {l : List Nat} {ts ts2 : List AVal} (h : Agree l ts ts2) {x : Operand} (hx : ∀ s ∈ slotsOf x, s ∈ l) : ev ts x = ev ts2 x := by
  cases x with
  | tmp t => simp only [AM.ev]; rw [h.getD (hx t (by simp [slotsOf]))]
  | _ => rfl
theorem Agree.disW {l : List Nat} {ts ts2 : List AVal} (h : Agree l ts ts2) {x : Operand} (hx : ∀ s ∈ slotsOf x, s ∈ l) : disW ts x = disW ts2 x := by
  cases x with
  | tmp t => simp only [AM.disW]; rw [h.getD (hx t (by simp [slotsOf]))]
  | _ => rfl
theorem Agree.disown {l : List Nat} {ts ts2 : List AVal} (h : Agree l ts ts2) {x : Operand} (hx : ∀ s ∈ slotsOf x, s ∈ l) {s : Nat} (hs : s ∈ l) : (disown ts x).getD s .undef = (disown ts2 x).getD s .undef := by
  cases x with
  | tmp t =>
    have ht : t ∈ l := hx t (by simp [slotsOf])
    have hlen : t < ts.length ↔ t < ts2.length := by
      have := h t ht
      constructor
      · intro hl; rw [List.getElem?_eq_getElem hl] at this; exact lt_of_some this.symm
      · intro hl; rw [List.getElem?_eq_getElem hl] at this; exact lt_of_some this
    simp only [AM.disown, List.getD, List.getElem?_set]
    by_cases e : t = s
    · subst e
      simp only [if_true]
      have hg := h.getD ht
      simp only [List.getD] at hg
      by_cases hl : t < ts.length
      · rw [if_pos hl, if_pos (hlen.1 hl), hg]
      · rw [if_neg hl, if_neg (fun hh => hl (hlen.2 hh))]
    · rw [if_neg e, if_neg e, h s hs]
  | _ => exact h.getD hs

theorem Agree.vecAt {l : List Nat} {ts ts2 : List AVal} (h : Agree l ts ts2) {x : Operand} (hx : ∀ s ∈ slotsOf x, s ∈ l) : vecAt ts x = vecAt ts2 x := by
  cases x with
  | tmp t => simp only [AM.vecAt]; rw [h.getD (hx t (by simp [slotsOf]))]
  | _ => rfl
theorem sliceOf_agree {H H2 : List HObj} {a : AVal} (h : isHeap a = true → H = H2) : sliceOf H a = sliceOf H2 a := by
  cases a with
  | mslice id off n esz ag => rw [h rfl]
  | _ => rfl

section
variable {R : Type} {E : Env} {mv : Bool} {o : Oper} {st st2 : St}

theorem evs_agree (hag : Agree (rdOf st.ts o.op) st.ts st2.ts) {x : Operand} (hx : x ∈ opds o.op) : ev st.ts x = ev st2.ts x :=
  hag.ev fun s hs => List.mem_append_left _ (List.mem_flatMap.2 ⟨x, hx, hs⟩)

theorem doOp_local {k : AVal → Tree R} (hag : Agree (rdOf st.ts o.op) st.ts st2.ts) (hH : rHOf st.ts o.op = true → st.H = st2.H) (h : isR o.op = true) : doOp E false o st (fun v _ => k v) = doOp E false o st2 (fun v _ => k v) := by
  have hev : ∀ x, x ∈ opds o.op → ev st.ts x = ev st2.ts x := fun x hx => evs_agree hag hx
  cases ho : o.op with
  | pick c a b =>
    rw [ho] at hev; unfold doOp
    simp only [ho, hev c (by simp [opds]), hev a (by simp [opds]), hev b (by simp [opds])]
  | binOp op t x y u =>
    rw [ho] at hev; unfold doOp
    simp only [ho, hev x (by simp [opds]), hev y (by simp [opds])]
  | unOp u t x =>
    rw [ho] at hev; unfold doOp
    simp only [ho, hev x (by simp [opds])]
  | convert a b x =>
    rw [ho] at hev; unfold doOp
    have hx := hev x (by simp [opds])
    have hs : isHeap (ev st2.ts x) = true → st.H = st2.H := fun e => hH (by rw [ho]; simp only [rHOf]; rw [hx]; exact e)
    have hd : ∀ s n, ev st2.ts x = .vref s n → st.ts.getD s .undef = st2.ts.getD s .undef := fun s n e => hag.getD (by
      refine List.mem_append_right _ ?_
      rw [ho]; simp [derefs, hx, e, lptrOf])
    simp only [ho, hx]
    generalize ev st2.ts x = q at hs hd
    have hs2 : sliceOf st.H q = sliceOf st2.H q := sliceOf_agree hs
    generalize E.T a = A
    generalize E.T b = B
    cases A with
    | none => rfl
    | some A =>
      cases B with
      | none => rfl
      | some B =>
        obtain ⟨a1, a2, a3, a4, ka, a5⟩ := A
        obtain ⟨b1, b2, b3, b4, kb, b5⟩ := B
        cases kb <;> cases ka <;> cases q <;> first | rfl | (simp only [hs2]; done) | (simp only [hs2]; rfl) | (simp only [hd _ _ rfl]; done) | (simp only [hd _ _ rfl]; rfl)
  | fieldAddr t x f =>
    rw [ho] at hev; unfold doOp
    simp only [ho, hev x (by simp [opds])]
  | field t x f =>
    rw [ho] at hev; unfold doOp
    simp only [ho, hev x (by simp [opds])]
  | indexAddr t x i =>
    rw [ho] at hev; unfold doOp
    simp only [ho, hev x (by simp [opds]), hev i (by simp [opds])]
  | index t x i =>
    rw [ho] at hev; unfold doOp
    simp only [ho, hev x (by simp [opds]), hev i (by simp [opds])]
  | lookup t m q b =>
    have hh := hH (by rw [ho]; rfl)
    rw [ho] at hev; unfold doOp
    simp only [ho, hev m (by simp [opds]), hev q (by simp [opds]), hh]
  | extract x i =>
    rw [ho] at hev; unfold doOp
    simp only [ho, hev x (by simp [opds])]
  | build t ps =>
    rw [ho] at hev; unfold doOp
    have h1 : (ps.toList.map fun p => (p.1, disAgg (ev st.ts p.2))) = ps.toList.map fun p => (p.1, disAgg (ev st2.ts p.2)) :=
      List.map_congr_left fun p hp => by rw [hev p.2 (by simp only [opds]; exact List.mem_map.2 ⟨p, hp, rfl⟩)]
    have h2 : (ps.toList.all fun p => plainAgg (ev st.ts p.2)) = ps.toList.all fun p => plainAgg (ev st2.ts p.2) := by
      rw [Bool.eq_iff_iff, List.all_eq_true, List.all_eq_true]
      constructor
      · intro hh p hp; rw [← hev p.2 (by simp only [opds]; exact List.mem_map.2 ⟨p, hp, rfl⟩)]; exact hh p hp
      · intro hh p hp; rw [hev p.2 (by simp only [opds]; exact List.mem_map.2 ⟨p, hp, rfl⟩)]; exact hh p hp
    simp only [ho, h1, h2]
  | buildSlice t len ps =>
    rw [ho] at hev; unfold doOp
    have h1 : (ps.toList.map fun p => (p.1, disAgg (ev st.ts p.2))) = ps.toList.map fun p => (p.1, disAgg (ev st2.ts p.2)) :=
      List.map_congr_left fun p hp => by rw [hev p.2 (by simp only [opds]; exact List.mem_map.2 ⟨p, hp, rfl⟩)]
    have h2 : (ps.toList.all fun p => plainAgg (ev st.ts p.2)) = ps.toList.all fun p => plainAgg (ev st2.ts p.2) := by
      rw [Bool.eq_iff_iff, List.all_eq_true, List.all_eq_true]
      constructor
      · intro hh p hp; rw [← hev p.2 (by simp only [opds]; exact List.mem_map.2 ⟨p, hp, rfl⟩)]; exact hh p hp
      · intro hh p hp; rw [hev p.2 (by simp only [opds]; exact List.mem_map.2 ⟨p, hp, rfl⟩)]; exact hh p hp
    simp only [ho, h1, h2, Bool.false_and, cond_false]
  | slice t x lo hi mx =>
    rw [ho] at hev; unfold doOp
    have h1 : lo.map (ev st.ts) = lo.map (ev st2.ts) := by cases lo with | none => rfl | some q => simp [hev q (by simp [opds])]
    have h2 : hi.map (ev st.ts) = hi.map (ev st2.ts) := by cases hi with | none => rfl | some q => simp [hev q (by simp [opds])]
    have h3 : mx.map (ev st.ts) = mx.map (ev st2.ts) := by cases mx with | none => rfl | some q => simp [hev q (by simp [opds])]
    simp only [ho, hev x (by simp [opds]), h1, h2, h3]
  | load t a =>
    have ha : ev st.ts a = ev st2.ts a := hev a (by rw [ho]; simp [opds])
    have hd : ∀ s off, ev st2.ts a = .lptr s off → st.ts.getD s .undef = st2.ts.getD s .undef := fun s off e => hag.getD (by
      refine List.mem_append_right _ ?_
      rw [ho]; simp [derefs, ha, e, lptrOf])
    have hh : ∀ id off, ev st2.ts a = .href id off → st.H = st2.H := fun id off e => hH (by rw [ho]; simp [rHOf, ha, e, isHeap])
    unfold doOp
    simp only [ho, ha]
    generalize E.T t = A
    cases A with
    | none => cases e : ev st2.ts a <;> rfl
    | some A =>
      cases e : ev st2.ts a with
      | lptr s off => simp only [hd s off e]
      | href id off => simp only [hh id off e]
      | _ => rfl
  | call c =>
    rw [ho] at hev h
    have hargs : ∀ x, x ∈ c.args.toList → ev st.ts x = ev st2.ts x := fun x hx => hev x (by simp only [opds]; exact List.mem_append_right _ hx)
    have hmap : c.args.toList.map (ev st.ts) = c.args.toList.map (ev st2.ts) := List.map_congr_left fun x hx => hargs x hx
    cases hc : c.callee with
    | value f => simp [isR, hc] at h
    | invoke a b => simp [isR, hc] at h
    | builtin b =>
      cases b with
      | min => unfold doOp; simp only [ho, hc, hmap]
      | max => unfold doOp; simp only [ho, hc, hmap]
      | len =>
        unfold doOp; simp only [ho, hc]
        split
        · rename_i x t h1 h2
          have hx := hargs x (by rw [h1]; simp)
          have hh : ∀ id, ev st2.ts x = .map id → st.H = st2.H := fun id e => hH (by rw [ho]; simp only [rHOf, hc, h1]; simp [hx, e, isHeap])
          simp only [hx]
          generalize E.T t = A
          cases A with
          | none => cases e : ev st2.ts x <;> rfl
          | some A =>
            obtain ⟨a1, a2, a3, a4, ka, a5⟩ := A
            cases e : ev st2.ts x with
            | map id => simp only [hh id e]
            | _ => cases ka <;> rfl
        · rfl
      | _ => simp [isR, hc] at h
  | _ => rw [ho] at h; simp [isR] at h

theorem dOp_local {k : AVal → Delta → Tree R} (hag : Agree (rdOf st.ts o.op) st.ts st2.ts) (hH : rHOf st.ts o.op = true → st.H = st2.H) : dOp E mv o st k = dOp E mv o st2 k := by
  have hev : ∀ x, x ∈ opds o.op → ev st.ts x = ev st2.ts x := fun x hx => evs_agree hag hx
  have hdw : ∀ x, x ∈ opds o.op → disW st.ts x = disW st2.ts x := fun x hx => hag.disW fun s hs => List.mem_append_left _ (List.mem_flatMap.2 ⟨x, hx, hs⟩)
  have hdo : ∀ x, x ∈ opds o.op → ∀ s, s ∈ rdOf st.ts o.op → (disown st.ts x).getD s .undef = (disown st2.ts x).getD s .undef := fun x hx s hs => hag.disown (fun s hs => List.mem_append_left _ (List.mem_flatMap.2 ⟨x, hx, hs⟩)) hs
  have hva : ∀ x, x ∈ opds o.op → vecAt st.ts x = vecAt st2.ts x := fun x hx => hag.vecAt fun s hs => List.mem_append_left _ (List.mem_flatMap.2 ⟨x, hx, hs⟩)
  have hR : isR o.op = true → doOp E false o st (fun v _ => k v {}) = doOp E false o st2 (fun v _ => k v {}) := fun h => doOp_local (k := fun v => k v {}) hag hH h
  cases ho : o.op with
  | move x =>
    rw [ho] at hev hdw hva; unfold dOp
    simp only [ho, hev x (by simp [opds]), hdw x (by simp [opds]), hva x (by simp [opds])]
  | assign x =>
    rw [ho] at hev hdw hva; unfold dOp
    simp only [ho, hev x (by simp [opds]), hdw x (by simp [opds]), hva x (by simp [opds])]
  | alloc t => unfold dOp; simp only [ho]
  | load t a =>
    unfold dOp
    simp only [ho]
    cases mv with
    | false => simp only [cond_false]; exact hR (by rw [ho]; rfl)
    | true =>
      simp only [cond_true]
      have ha : ev st.ts a = ev st2.ts a := hev a (by rw [ho]; simp [opds])
      have hd : ∀ s off, ev st2.ts a = .lptr s off → st.ts.getD s .undef = st2.ts.getD s .undef := fun s off e => hag.getD (by
        refine List.mem_append_right _ ?_
        rw [ho]; simp [derefs, ha, e, lptrOf])
      simp only [ha]
      generalize E.T t = A
      cases A with
      | none => cases e : ev st2.ts a <;> rfl
      | some A =>
        cases e : ev st2.ts a with
        | lptr s off => simp only [hd s off e]
        | href id off => simp only [hH (by rw [ho]; simp [rHOf, ha, e, isHeap])]
        | _ => rfl
  | store t a x =>
    have ha : ev st.ts a = ev st2.ts a := hev a (by rw [ho]; simp [opds])
    have hx : ev st.ts x = ev st2.ts x := hev x (by rw [ho]; simp [opds])
    have hd : ∀ s off, ev st2.ts a = .lptr s off → (disown st.ts x).getD s .undef = (disown st2.ts x).getD s .undef := fun s off e => hdo x (by rw [ho]; simp [opds]) s (by
      refine List.mem_append_right _ ?_
      rw [ho]; simp [derefs, ha, e, lptrOf])
    have hh : ∀ id off, ev st2.ts a = .href id off → st.H = st2.H := fun id off e => hH (by rw [ho]; simp [rHOf, ha, e, isHeap])
    have hw := hdw x (by rw [ho]; simp [opds])
    unfold dOp
    simp only [ho, ha, hx, hw]
    generalize E.T t = A
    cases A with
    | none => cases e : ev st2.ts a <;> rfl
    | some A =>
      cases e : ev st2.ts a with
      | lptr s off => simp only [hd s off e]
      | href id off => simp only [hh id off e]
      | _ => rfl
  | mapUpdate t m q v =>
    have hh := hH (by rw [ho]; rfl)
    rw [ho] at hev; unfold dOp
    simp only [ho, hev m (by simp [opds]), hev q (by simp [opds]), hev v (by simp [opds]), hh]
  | call c =>
    rw [ho] at hev hdw
    have hargs : ∀ x, x ∈ c.args.toList → ev st.ts x = ev st2.ts x := fun x hx => hev x (by simp only [opds]; exact List.mem_append_right _ hx)
    cases hc : c.callee with
    | value f =>
      have hf : ev st.ts f = ev st2.ts f := hev f (by simp [opds, hc])
      have hh := hH (by rw [ho]; simp [rHOf, hc])
      have h1 : ∀ g, ((c.args.toList.zip c.argTypes.toList).map fun p => argOf (E.hint.nils.contains g) (E.T p.2) E.T (ev st.ts p.1)) = (c.args.toList.zip c.argTypes.toList).map fun p => argOf (E.hint.nils.contains g) (E.T p.2) E.T (ev st2.ts p.1) := fun g =>
        List.map_congr_left fun p hp => by rw [hargs p.1 (List.of_mem_zip hp).1]
      have h2 : (c.args.toList.all fun x => plainAgg (ev st.ts x)) = c.args.toList.all fun x => plainAgg (ev st2.ts x) := by
        rw [Bool.eq_iff_iff, List.all_eq_true, List.all_eq_true]
        constructor
        · intro hq x hx; rw [← hargs x hx]; exact hq x hx
        · intro hq x hx; rw [hargs x hx]; exact hq x hx
      unfold dOp; simp only [ho, hc, hf, h1, h2, hh]
    | invoke a b => unfold dOp; simp only [ho, hc]
    | builtin b =>
      cases b with
      | len => unfold dOp; simp only [ho, hc]; exact hR (by rw [ho]; simp [isR, hc])
      | min => unfold dOp; simp only [ho, hc]; exact hR (by rw [ho]; simp [isR, hc])
      | max => unfold dOp; simp only [ho, hc]; exact hR (by rw [ho]; simp [isR, hc])
      | append =>
        unfold dOp; simp only [ho, hc]
        split
        · rename_i x y t u h1 h2
          have hx := hargs x (by rw [h1]; simp)
          have hy := hargs y (by rw [h1]; simp)
          have hw := hdw x (by simp only [opds]; exact List.mem_append_right _ (by rw [h1]; simp))
          have hs : sliceOf st.H (ev st2.ts y) = sliceOf st2.H (ev st2.ts y) := sliceOf_agree fun e => hH (by rw [ho]; simp only [rHOf, hc, h1]; simp [hy, e])
          simp only [hx, hy, hw, hs]
        · rfl
      | _ => unfold dOp; simp only [ho, hc]
  | pick => unfold dOp; simp only [ho]; exact hR (by rw [ho]; rfl)
  | binOp => unfold dOp; simp only [ho]; exact hR (by rw [ho]; rfl)
  | unOp => unfold dOp; simp only [ho]; exact hR (by rw [ho]; rfl)
  | convert => unfold dOp; simp only [ho]; exact hR (by rw [ho]; rfl)
  | fieldAddr => unfold dOp; simp only [ho]; exact hR (by rw [ho]; rfl)
  | field => unfold dOp; simp only [ho]; exact hR (by rw [ho]; rfl)
  | indexAddr => unfold dOp; simp only [ho]; exact hR (by rw [ho]; rfl)
  | index => unfold dOp; simp only [ho]; exact hR (by rw [ho]; rfl)
  | lookup => unfold dOp; simp only [ho]; exact hR (by rw [ho]; rfl)
  | extract => unfold dOp; simp only [ho]; exact hR (by rw [ho]; rfl)
  | build => unfold dOp; simp only [ho]; exact hR (by rw [ho]; rfl)
  | buildSlice => unfold dOp; simp only [ho]; exact congrArg (fun x => bif mv && mutAt E o.dst then Tree.none else x) (hR (by rw [ho]; rfl))
  | slice => unfold dOp; simp only [ho]; exact hR (by rw [ho]; rfl)
  | _ => unfold dOp; simp only [ho]

theorem rdOf_agree (hag : Agree (rdOf st.ts o.op) st.ts st2.ts) : rdOf st2.ts o.op = rdOf st.ts o.op := by
  have hev : ∀ x, x ∈ opds o.op → ev st.ts x = ev st2.ts x := fun x hx => evs_agree hag hx
  unfold rdOf
  cases ho : o.op with
  | load t a => rw [ho] at hev; simp only [derefs, hev a (by simp [opds])]
  | store t a x => rw [ho] at hev; simp only [derefs, hev a (by simp [opds])]
  | convert t d a => rw [ho] at hev; simp only [derefs, hev a (by simp [opds])]
  | _ => rfl

theorem rHOf_agree (hag : Agree (rdOf st.ts o.op) st.ts st2.ts) : rHOf st2.ts o.op = rHOf st.ts o.op := by
  have hev : ∀ x, x ∈ opds o.op → ev st.ts x = ev st2.ts x := fun x hx => evs_agree hag hx
  cases ho : o.op with
  | load t a => rw [ho] at hev; simp only [rHOf, hev a (by simp [opds])]
  | store t a x => rw [ho] at hev; simp only [rHOf, hev a (by simp [opds])]
  | convert t u a => rw [ho] at hev; simp only [rHOf, hev a (by simp [opds])]
  | call c =>
    rw [ho] at hev
    have hargs : ∀ x, x ∈ c.args.toList → ev st.ts x = ev st2.ts x := fun x hx => hev x (by simp only [opds]; exact List.mem_append_right _ hx)
    have : (c.args.toList.any fun x => isHeap (ev st2.ts x)) = c.args.toList.any fun x => isHeap (ev st.ts x) := by
      rw [Bool.eq_iff_iff, List.any_eq_true, List.any_eq_true]
      constructor
      · rintro ⟨x, hx, e⟩; exact ⟨x, hx, by rw [hargs x hx]; exact e⟩
      · rintro ⟨x, hx, e⟩; exact ⟨x, hx, by rw [← hargs x hx]; exact e⟩
    simp only [rHOf, this]
  | _ => rfl

end
end Go.AM
