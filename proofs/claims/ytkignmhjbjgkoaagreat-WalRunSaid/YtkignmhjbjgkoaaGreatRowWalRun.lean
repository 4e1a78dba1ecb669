/- PRINTED: the rows. -/
import Derived.Test.YtkignmhjbjgkoaaGreatRows
import Derived.Test.YtkignmhjbjgkoaaGreatWf
import Derived.Test.YtkignmhjbjgkoaaGreatPfLast
import Derived.WalkKit
import Derived.ProofKit
import Derived.OpenShut
import Derived.ShutString
import Derived.ChangeOld
import Derived.Below
import Derived.SizedLaws
import Derived.Carry
set_option linter.unusedVariables false
set_option maxRecDepth 100000
set_option maxHeartbeats 0
namespace Go.Proofs.YtkignmhjbjgkoaaGreat
open Go Go.AM
open Go.ChangeShapes Go.WideShapes Go.ChangeAt Go.RowKit
open Go.ChangeMaps (open_string shut_string)
theorem readsGlookoutlaw23_Act_43 {H : Type} {enc0 : TypeId × Value → H} {W : World} : Reads enc0 Tryz.checked.prog W 43 encGlookoutlaw23_Act wfGlookoutlaw23_Act :=
  reads_struct (β := Int × (List ByteArray) × Int × (List Int) × Unit) (fun b => ⟨b.1, b.2.1, b.2.2.1, b.2.2.2.1⟩) (by kernel_rfl) (by kernel_rfl) (by kernel_rfl) (fun b => rfl) (fun b h => h) (ReadsF.cons (t := 3) (k := 1) (by kernel_rfl) (reads_int (t := 3) (k := .i64) (by kernel_rfl)) (fun _ => rfl) (ReadsF.cons (t := 29) (k := 1) (by kernel_rfl) (reads_slice (t := 29) (e := 9) (esz := 1) (by kernel_rfl) (by kernel_rfl) okStr (reads_string (t := 9) (by kernel_rfl)) bE) (fun _ => rfl) (ReadsF.cons (t := 5) (k := 1) (by kernel_rfl) (reads_int (t := 5) (k := .u8) (by kernel_rfl)) (fun _ => rfl) (ReadsF.cons (t := 38) (k := 1) (by kernel_rfl) (reads_slice (t := 38) (e := 3) (esz := 1) (by kernel_rfl) (by kernel_rfl) (okInt .i64) (reads_int (t := 3) (k := .i64) (by kernel_rfl)) 0) (fun _ => rfl) .nil))))
theorem rowOwn : ownKnob Tryz.prog.godebug = none := by kernel_rfl
theorem rowLaidOut : laidOutB Tryz.prog = true := by kernel_rfl
theorem walRun_lifted (hG : ProgOk Tryz.checked.prog G) (hp : ∀ (x0 : List Glookoutlaw23_Act) (x1 : List Int), (wfL wfGlookoutlaw23_Act) x0 → (wfL (wfInt .i64)) x1 → ∃ n, lookoutlaw23_WalRun n x0 x1 = some true) (os : Os) (started : os.Started) (H : Type) (enc : TypeId × Value → H) :
    ReturnsInHanded {} Tryz.checked os 4 .any (Rows.walRunSpec.pre6 enc Tryz.prog Tryz.f4 Rows.walRunRow.domain false) (Rows.walRunSpec.post enc Tryz.prog Tryz.f4 false true false false) := by
  refine returnsInHanded_of_change_sized (C := Tryz.checked) rowOwn started (by kernel_rfl) Tryz.func4
    (ChangeSpec.witness6 (enc := enc) (C := Tryz.checked) false ⟨#[], #[.slice none 0 0, .slice none 0 0], []⟩ 8 (by kernel_rfl) (by kernel_rfl) (by kernel_rfl) (by kernel_rfl)) ?_
  intro W base args ds gs before hval0 hW hcnd hsz0 _
  have hval : ∀ (j : Nat) t v, Tryz.f4.params[j]? = some t → args[j]? = some v → Value.okWide Tryz.prog W .any base t v := hval0
  have hW' := hW
  obtain ⟨p, q, hA0, hV, rfl, hfz, hnd⟩ := hW
  have hA : DataW.TrodAll enc Tryz.prog W 0 (fun _ => true) true Tryz.f4.params.toList args.toList ds p := hA0
  rw [Tryz.params4] at hA hval
  obtain ⟨v0, vs0, d0, ds0, p0, q0, hargs, rfl, rfl, h0, r0⟩ := trodAll_cons hA
  obtain ⟨v1, vs1, d1, ds1, p1, q1, rfl, rfl, rfl, h1, r1⟩ := trodAll_cons r0
  obtain ⟨rfl, rfl, rfl⟩ := trodAll_nil r1
  obtain rfl : args = #[v0, v1] := by cases args; simp_all
  obtain ⟨rfl, rfl⟩ := trodVars_none hV
  have k0 := h0
  have lt0 : ∀ x ∈ p0, x.block < W.heap.size := by obtain ⟨m, hm⟩ := k0; exact DataW.trod_lt m _ _ _ hm
  obtain ⟨x0, w0, e0⟩ : ∃ x, (wfL wfGlookoutlaw23_Act) x ∧ Rep W (inW W) (fun _ => 0) 0 ((encL 4 encGlookoutlaw23_Act dGlookoutlaw23_Act) x) v0 := arg_one (by obtain ⟨a, l, c, rfl⟩ := okWide_slice Tryz.underlying37 (hval 0 37 v0 rfl rfl); rfl) (fun _ => rfl) (reads_slice (t := 37) (e := 43) (esz := 4) (by kernel_rfl) (by kernel_rfl) okGlookoutlaw23_Act readsGlookoutlaw23_Act_43 dGlookoutlaw23_Act) h0
  have k1 := h1
  have lt1 : ∀ x ∈ p1, x.block < W.heap.size := by obtain ⟨m, hm⟩ := k1; exact DataW.trod_lt m _ _ _ hm
  obtain ⟨x1, w1, e1⟩ : ∃ x, (wfL (wfInt .i64)) x ∧ Rep W (inW W) (fun _ => 0) 0 ((encL 1 (AVal.int .i64) 0) x) v1 := arg_one (by obtain ⟨a, l, c, rfl⟩ := okWide_slice Tryz.underlying38 (hval 1 38 v1 rfl rfl); rfl) (fun _ => rfl) (reads_slice (t := 38) (e := 3) (esz := 1) (by kernel_rfl) (by kernel_rfl) (okInt .i64) (reads_int (t := 3) (k := .i64) (by kernel_rfl)) 0) h1
  clear hA0 hval0 hsz0
  obtain ⟨n, hn⟩ := hp x0 x1 w0 w1
  have hrun := lookoutlaw23_WalRun_ok n x0 x1 true hn
  have hargs2 : ArgsOk W (omega0 W) (fun _ => 0) 0 [(encL 4 encGlookoutlaw23_Act dGlookoutlaw23_Act) x0, (encL 1 (AVal.int .i64) 0) x1] #[v0, v1] := argsOk_of (RepL.cons e0 (RepL.cons e1 .nil))
  refine (run_sound hG n 4 (of_decide_eq_true (by kernel_rfl)) _ _ _ _ hrun #[v0, v1] W (omega0 W) (fun _ => 0) (pre0 W) hargs2).mono fun e W' ⟨v, ω, η, he, hpost⟩ => ?_
  subst he
  have hvt : v = .bool true := by have := hpost.rep; exact rep_bool this
  subst hvt
  have bel : Below W.heap.size W W' := below_of hpost.keeps
  exact ⟨_, rfl, _, _, _, [], _, [], hW', trodAll_mk1 (shut_bool (by kernel_rfl) _), (trodAll_cons_mk (Below.trod rowLaidOut (by kernel_rfl) (of_decide_eq_true (by kernel_rfl)) k0 bel lt0) (trodAll_cons_mk (Below.trod rowLaidOut (by kernel_rfl) (of_decide_eq_true (by kernel_rfl)) k1 bel lt1) trodAll_mk0)), rfl, bel.frame _, fun h => by cases h⟩
theorem walRun_over (hG : ProgOk Tryz.checked.prog G) (hp : ∀ (x0 : List Glookoutlaw23_Act) (x1 : List Int), (wfL wfGlookoutlaw23_Act) x0 → (wfL (wfInt .i64)) x1 → ∃ n, lookoutlaw23_WalRun n x0 x1 = some true) : Rows.WalRunSaid :=
  OpenClaim.holds_of_wide 4 Tryz.f4 rfl rfl rfl rfl rfl rfl rfl ⟨rfl, rfl, rfl, rfl, rfl⟩ rfl rfl rfl rfl rfl (by kernel_rfl) Tryz.func4 (by kernel_rfl)
    (of_decide_eq_true (by kernel_rfl)) (by unfold Func.isWrapper; first | (rw [if_pos (by decide +kernel)]; kernel_rfl) | (rw [if_neg (by decide +kernel)]; exact ⟨rfl, rfl⟩))
    (fun os started H enc _ => walRun_lifted hG hp os started H enc)
end Go.Proofs.YtkignmhjbjgkoaaGreat
