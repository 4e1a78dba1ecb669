/- The machine's program is the given one; no contract from outside. -/
import Derived.Test.YtkkinfbipndfdaaPg
import Derived.Test.YtkkinfbipndfdaaAmW
set_option linter.unusedVariables false
set_option maxRecDepth 100000
namespace Go.Proofs.Ytkkinfbipndfdaa
open Go Go.AM
theorem u16 {x : Int} (h : wfInt .u16 x) : 0 ≤ x ∧ x < 65536 := by
  unfold wfInt Lit.wf at h
  simp [Go.IntKind.min, Go.IntKind.max, IntKind.bits, IntKind.signed] at h
  omega
theorem u8 {x : Int} (h : wfInt .u8 x) : 0 ≤ x ∧ x < 256 := by
  unfold wfInt Lit.wf at h
  simp [Go.IntKind.min, Go.IntKind.max, IntKind.bits, IntKind.signed] at h
  omega
theorem strOk (h : AM.Hint) (h1 : h.bs.isEmpty = true) (h2 : h.bl.isEmpty = true) : StrOk h extRel := by
  have e1 := List.isEmpty_iff.1 h1
  have e2 := List.isEmpty_iff.1 h2
  exact ⟨fun g T e h => (by rw [e1] at h; cases h), fun g T e h => (by rw [e2] at h; cases h)⟩
def hintFine (x : AM.Hint × Keep) : Bool := x.1.bs.isEmpty && x.1.bl.isEmpty
theorem lkN_all {α : Type} {p : α → Bool} : ∀ {l : List (Nat × α)}, l.all (fun x => p x.2) = true → ∀ {f : Nat} {a : α}, lkN f l = some a → p a = true
  | [], _, f, a, h => by cases h
  | (g, x) :: l, hl, f, a, h => by
    simp only [List.all_cons, Bool.and_eq_true] at hl
    unfold lkN at h
    cases hg : Nat.beq g f with
    | true => rw [hg] at h; cases h; exact hl.1
    | false => rw [hg] at h; exact lkN_all hl.2 h
theorem funOf_hint {F : Func} {h : AM.Hint} {kp : Keep} {fn : Fun} (e : funOf F h kp = some fn) : fn.hint = h := by
  unfold funOf at e
  split at e <;> cases e
  rfl
theorem gOk [VR : Vars] : ProgOk Try.checked.prog G := by
  refine ⟨tOk, fun f fn h => ?_, fun f args H r H' h => h.elim, fun f args H r H' h => h.elim, Checked.mixed _, of_decide_eq_true (by kernel_rfl), fun f fn h => ?_, fun i h kp hr => ?_⟩
  · have h : fnOf f = some fn := h
    unfold fnOf at h
    split at h
    · split at h
      · rename_i F hF
        cases hn : F.name == "runtime.NumGoroutine" with
        | true => rw [hn] at h; cases h
        | false => rw [hn] at h; exact funOf_ok hF hn h
      · cases h
    · cases h
  · have h : fnOf f = some fn := h
    unfold fnOf at h
    split at h
    · rename_i hh kp hl
      split at h
      · rename_i F hF
        cases hn : F.name == "runtime.NumGoroutine" with
        | true => rw [hn] at h; cases h
        | false =>
          rw [hn] at h
          have e := funOf_hint h
          have := lkN_all (p := hintFine) (by kernel_rfl) hl
          simp only [hintFine, Bool.and_eq_true] at this
          rw [e]; exact strOk _ this.1 this.2
      · cases h
    · cases h
  · have := lkN_all (p := hintFine) (by kernel_rfl) (show lkN i rndTab = some (h, kp) from hr)
    simp only [hintFine, Bool.and_eq_true] at this
    exact strOk _ this.1 this.2
end Go.Proofs.Ytkkinfbipndfdaa
