/- PRINTED: the rows. -/
import Derived.Test.YtkignmhjbjgkoaaRows
import Derived.Test.YtkignmhjbjgkoaaWf
import Derived.Test.YtkignmhjbjgkoaaPfLast
import Derived.WalkKit
import Derived.ProofKit
import Derived.OpenShut
import Derived.ShutString
import Derived.ChangeOld
import Derived.Below
import Derived.SizedLaws
import Derived.Carry
set_option linter.unusedVariables false
set_option maxRecDepth 100000
set_option maxHeartbeats 0
namespace Go.Proofs.Ytkignmhjbjgkoaa
open Go Go.AM
open Go.ChangeShapes Go.WideShapes Go.ChangeAt Go.RowKit
open Go.ChangeMaps (open_string shut_string)
theorem readsGlookoutlaw22_Act_76 {H : Type} {enc0 : TypeId × Value → H} {W : World} : Reads enc0 Try.checked.prog W 76 encGlookoutlaw22_Act wfGlookoutlaw22_Act :=
  reads_struct (β := Int × ByteArray × ByteArray × ByteArray × Int × Unit) (fun b => ⟨b.1, b.2.1, b.2.2.1, b.2.2.2.1, b.2.2.2.2.1⟩) (by kernel_rfl) (by kernel_rfl) (by kernel_rfl) (fun b => rfl) (fun b h => h) (ReadsF.cons (t := 3) (k := 1) (by kernel_rfl) (reads_int (t := 3) (k := .i64) (by kernel_rfl)) (fun _ => rfl) (ReadsF.cons (t := 9) (k := 1) (by kernel_rfl) (reads_string (t := 9) (by kernel_rfl)) (fun _ => rfl) (ReadsF.cons (t := 9) (k := 1) (by kernel_rfl) (reads_string (t := 9) (by kernel_rfl)) (fun _ => rfl) (ReadsF.cons (t := 9) (k := 1) (by kernel_rfl) (reads_string (t := 9) (by kernel_rfl)) (fun _ => rfl) (ReadsF.cons (t := 3) (k := 1) (by kernel_rfl) (reads_int (t := 3) (k := .i64) (by kernel_rfl)) (fun _ => rfl) .nil)))))
theorem rowOwn : ownKnob Try.prog.godebug = none := by kernel_rfl
theorem rowLaidOut : laidOutB Try.prog = true := by kernel_rfl
theorem diskRun_lifted (hG : ProgOk Try.checked.prog G) (hp : ∀ (x0 : List Glookoutlaw22_Act), (wfL wfGlookoutlaw22_Act) x0 → ∃ n, lookoutlaw22_DiskRun n x0 = some true) (os : Os) (started : os.Started) (H : Type) (enc : TypeId × Value → H) :
    ReturnsInHanded {} Try.checked os 12 .any (Rows.diskRunSpec.pre6 enc Try.prog Try.f12 Rows.diskRunRow.domain false) (Rows.diskRunSpec.post enc Try.prog Try.f12 false true false false) := by
  refine returnsInHanded_of_change_sized (C := Try.checked) rowOwn started (by kernel_rfl) Try.func12
    (ChangeSpec.witness6 (enc := enc) (C := Try.checked) false ⟨#[], #[.slice none 0 0], []⟩ 8 (by kernel_rfl) (by kernel_rfl) (by kernel_rfl) (by kernel_rfl)) ?_
  intro W base args ds gs before hval0 hW hcnd hsz0 _
  have hval : ∀ (j : Nat) t v, Try.f12.params[j]? = some t → args[j]? = some v → Value.okWide Try.prog W .any base t v := hval0
  have hW' := hW
  obtain ⟨p, q, hA0, hV, rfl, hfz, hnd⟩ := hW
  have hA : DataW.TrodAll enc Try.prog W 0 (fun _ => true) true Try.f12.params.toList args.toList ds p := hA0
  rw [Try.params12] at hA hval
  obtain ⟨v0, vs0, d0, ds0, p0, q0, hargs, rfl, rfl, h0, r0⟩ := trodAll_cons hA
  obtain ⟨rfl, rfl, rfl⟩ := trodAll_nil r0
  obtain rfl : args = #[v0] := by cases args; simp_all
  obtain ⟨rfl, rfl⟩ := trodVars_none hV
  have k0 := h0
  have lt0 : ∀ x ∈ p0, x.block < W.heap.size := by obtain ⟨m, hm⟩ := k0; exact DataW.trod_lt m _ _ _ hm
  obtain ⟨x0, w0, e0⟩ : ∃ x, (wfL wfGlookoutlaw22_Act) x ∧ Rep W (inW W) (fun _ => 0) 0 ((encL 5 encGlookoutlaw22_Act dGlookoutlaw22_Act) x) v0 := arg_one (by obtain ⟨a, l, c, rfl⟩ := okWide_slice Try.underlying80 (hval 0 80 v0 rfl rfl); rfl) (fun _ => rfl) (reads_slice (t := 80) (e := 76) (esz := 5) (by kernel_rfl) (by kernel_rfl) okGlookoutlaw22_Act readsGlookoutlaw22_Act_76 dGlookoutlaw22_Act) h0
  clear hA0 hval0 hsz0
  obtain ⟨n, hn⟩ := hp x0 w0
  have hrun := lookoutlaw22_DiskRun_ok n x0 true hn
  have hargs2 : ArgsOk W (omega0 W) (fun _ => 0) 0 [(encL 5 encGlookoutlaw22_Act dGlookoutlaw22_Act) x0] #[v0] := argsOk_of (RepL.cons e0 .nil)
  refine (run_sound hG n 12 _ _ _ _ hrun #[v0] W (omega0 W) (fun _ => 0) (pre0 W) hargs2).mono fun e W' ⟨v, ω, η, he, hpost⟩ => ?_
  subst he
  have hvt : v = .bool true := by have := hpost.rep; exact rep_bool this
  subst hvt
  have bel : Below W.heap.size W W' := below_of hpost.keeps
  exact ⟨_, rfl, _, _, _, [], _, [], hW', trodAll_mk1 (shut_bool (by kernel_rfl) _), (trodAll_cons_mk (Below.trod rowLaidOut (by kernel_rfl) (of_decide_eq_true (by kernel_rfl)) k0 bel lt0) trodAll_mk0), rfl, bel.frame _, fun h => by cases h⟩
theorem diskRun_over (hG : ProgOk Try.checked.prog G) (hp : ∀ (x0 : List Glookoutlaw22_Act), (wfL wfGlookoutlaw22_Act) x0 → ∃ n, lookoutlaw22_DiskRun n x0 = some true) : Rows.DiskRunSaid :=
  OpenClaim.holds_of_wide 12 Try.f12 rfl rfl rfl rfl rfl rfl rfl ⟨rfl, rfl, rfl, rfl, rfl⟩ rfl rfl rfl rfl rfl (by kernel_rfl) Try.func12 (by kernel_rfl)
    (of_decide_eq_true (by kernel_rfl)) (by unfold Func.isWrapper; first | (rw [if_pos (by decide +kernel)]; kernel_rfl) | (rw [if_neg (by decide +kernel)]; exact ⟨rfl, rfl⟩))
    (fun os started H enc _ => diskRun_lifted hG hp os started H enc)
end Go.Proofs.Ytkignmhjbjgkoaa
