/- The machine's program is the given one; strings.Builder by its contracts. -/
import Derived.Test.YtkignmhjbjgkoaaPg
import Derived.Test.YtkignmhjbjgkoaaBld
import Derived.Test.YtkignmhjbjgkoaaBldS
import Derived.Test.YtkignmhjbjgkoaaAmW
set_option linter.unusedVariables false
set_option maxRecDepth 100000
namespace Go.Proofs.Ytkignmhjbjgkoaa
open Go Go.AM
theorem u16 {x : Int} (h : wfInt .u16 x) : 0 ≤ x ∧ x < 65536 := by
  unfold wfInt Lit.wf at h
  simp [Go.IntKind.min, Go.IntKind.max, IntKind.bits, IntKind.signed] at h
  omega
theorem u8 {x : Int} (h : wfInt .u8 x) : 0 ≤ x ∧ x < 256 := by
  unfold wfInt Lit.wf at h
  simp [Go.IntKind.min, Go.IntKind.max, IntKind.bits, IntKind.signed] at h
  omega
theorem strOk (h : Hint) (h1 : h.bs.all (fun p => decide (p = (73, 98, 5))) = true) (h2 : h.bl.all (fun p => decide (p = (70, 98, 5))) = true) : StrOk h extRel := by
  have key : ∀ (l : List (Nat × Nat × Nat)) (q : Nat × Nat × Nat), l.all (fun p => decide (p = q)) = true → ∀ g T e, bsOf l g = some (T, e) → (g, T, e) = q := by
    intro l q hl
    induction l with
    | nil => intro g T e h; cases h
    | cons p l ih =>
      intro g T e h
      simp only [List.all_cons, Bool.and_eq_true, decide_eq_true_eq] at hl
      obtain ⟨a, b, c⟩ := p
      unfold bsOf at h
      cases hg : Nat.beq a g with
      | true =>
        rw [hg] at h
        simp only [cond_true, Option.some.injEq, Prod.mk.injEq] at h
        rw [← hl.1, ← h.1, ← h.2, Nat.eq_of_beq_eq_true hg]
      | false => rw [hg] at h; exact ih hl.2 g T e h
  refine ⟨fun g T e h H id b hH hb => ?_, fun g T e h H id b hH => ?_⟩
  · have := key _ _ h1 g T e h
    cases this
    exact .inr (.inr ⟨rfl, id, b, rfl, hH, hb, rfl, rfl⟩)
  · have := key _ _ h2 g T e h
    cases this
    exact .inr (.inl ⟨rfl, id, b, rfl, hH, rfl, rfl⟩)
theorem lkN_all {α : Type} {p : α → Bool} : ∀ {l : List (Nat × α)}, l.all (fun x => p x.2) = true → ∀ {f : Nat} {a : α}, lkN f l = some a → p a = true
  | [], _, f, a, h => by cases h
  | (g, x) :: l, hl, f, a, h => by
    simp only [List.all_cons, Bool.and_eq_true] at hl
    unfold lkN at h
    cases hg : Nat.beq g f with
    | true => rw [hg] at h; cases h; exact hl.1
    | false => rw [hg] at h; exact lkN_all hl.2 h
def hintFine (x : Hint × Keep) : Bool := x.1.bs.all (fun p => decide (p = (73, 98, 5))) && x.1.bl.all (fun p => decide (p = (70, 98, 5)))
theorem funOf_hint {F : Func} {h : Hint} {kp : Keep} {fn : Fun} (e : funOf F h kp = some fn) : fn.hint = h := by
  unfold funOf at e
  split at e <;> cases e
  rfl
theorem gOk : ProgOk Try.checked.prog G := by
  refine ⟨tOk, fun f fn h => ?_, fun f args H r H' h => ?_, fun f args H r H' h => ?_, Checked.mixed _, of_decide_eq_true (by kernel_rfl), fun f fn h => ?_, fun i h kp hr => ?_⟩
  · have h : fnOf f = some fn := h
    unfold fnOf at h
    split at h
    · split at h
      · rename_i F hF
        cases hn : F.name == "runtime.NumGoroutine" with
        | true => rw [hn] at h; cases h
        | false => rw [hn] at h; exact funOf_ok hF hn h
      · cases h
    · cases h
  · rcases h with ⟨rfl, h⟩ | ⟨rfl, h⟩ | ⟨rfl, h⟩
    · exact sound_write Try.bld166 Try.bldX args H r H' h
    · exact sound_len Try.bld170 args H r H' h
    · exact sound_string Try.bld169 Try.bldX args H r H' h
  · rcases h with ⟨rfl, h⟩ | ⟨rfl, h⟩ | ⟨rfl, h⟩
    · exact ⟨_, Try.bld166.f166, by kernel_rfl, by kernel_rfl⟩
    · exact ⟨_, Try.bld170.f170, by kernel_rfl, by kernel_rfl⟩
    · exact ⟨_, Try.bld169.f169, by kernel_rfl, by kernel_rfl⟩
  · have h : fnOf f = some fn := h
    unfold fnOf at h
    split at h
    · rename_i hh kp hl
      split at h
      · rename_i F hF
        cases hn : F.name == "runtime.NumGoroutine" with
        | true => rw [hn] at h; cases h
        | false =>
          rw [hn] at h
          have e := funOf_hint h
          have := lkN_all (p := hintFine) (by kernel_rfl) hl
          simp only [hintFine, Bool.and_eq_true] at this
          rw [e]; exact strOk _ this.1 this.2
      · cases h
    · cases h
  · have := lkN_all (p := hintFine) (by kernel_rfl) (show lkN i rndTab = some (h, kp) from hr)
    simp only [hintFine, Bool.and_eq_true] at this
    exact strOk _ this.1 this.2
end Go.Proofs.Ytkignmhjbjgkoaa
