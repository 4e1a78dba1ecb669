/- PRINTED: the rows. -/
import Derived.Test.YtomalcfghdaghaaDoorRows
import Derived.Test.YtomalcfghdaghaaDoorWf
import Derived.Test.YtomalcfghdaghaaDoorPfLast
import Derived.Test.YtomalcfghdaghaaDoorRowD
import Derived.WalkKit
import Derived.ProofKit
import Derived.OpenShut
import Derived.ShutString
import Derived.ChangeOld
import Derived.Below
import Derived.SizedLaws
import Derived.Carry
set_option linter.unusedVariables false
set_option maxRecDepth 100000
set_option maxHeartbeats 0
namespace Go.Proofs.YtomalcfghdaghaaDoor
open Go Go.AM
open Go.ChangeShapes Go.WideShapes Go.ChangeAt Go.RowKit
open Go.ChangeMaps (open_string shut_string)
theorem readsGBlockRef_43 {H : Type} {enc0 : TypeId × Value → H} {W : World} : Reads enc0 Tryd.checked.prog W 43 encGBlockRef wfGBlockRef :=
  reads_struct (β := Int × Int × ByteArray × Int × Int × Int × Unit) (fun b => ⟨b.1, b.2.1, b.2.2.1, b.2.2.2.1, b.2.2.2.2.1, b.2.2.2.2.2.1⟩) (by kernel_rfl) (by kernel_rfl) (by kernel_rfl) (fun b => rfl) (fun b h => h) (ReadsF.cons (t := 3) (k := 1) (by kernel_rfl) (reads_int (t := 3) (k := .i64) (by kernel_rfl)) (fun _ => rfl) (ReadsF.cons (t := 3) (k := 1) (by kernel_rfl) (reads_int (t := 3) (k := .i64) (by kernel_rfl)) (fun _ => rfl) (ReadsF.cons (t := 9) (k := 1) (by kernel_rfl) (reads_string (t := 9) (by kernel_rfl)) (fun _ => rfl) (ReadsF.cons (t := 3) (k := 1) (by kernel_rfl) (reads_int (t := 3) (k := .i64) (by kernel_rfl)) (fun _ => rfl) (ReadsF.cons (t := 3) (k := 1) (by kernel_rfl) (reads_int (t := 3) (k := .i64) (by kernel_rfl)) (fun _ => rfl) (ReadsF.cons (t := 3) (k := 1) (by kernel_rfl) (reads_int (t := 3) (k := .i64) (by kernel_rfl)) (fun _ => rfl) .nil))))))
theorem readsGManifest_24 {H : Type} {enc0 : TypeId × Value → H} {W : World} : Reads enc0 Tryd.checked.prog W 24 encGManifest wfGManifest :=
  reads_struct (β := Int × Int × Int × ByteArray × (List GBlockRef) × Unit) (fun b => ⟨b.1, b.2.1, b.2.2.1, b.2.2.2.1, b.2.2.2.2.1⟩) (by kernel_rfl) (by kernel_rfl) (by kernel_rfl) (fun b => rfl) (fun b h => h) (ReadsF.cons (t := 3) (k := 1) (by kernel_rfl) (reads_int (t := 3) (k := .i64) (by kernel_rfl)) (fun _ => rfl) (ReadsF.cons (t := 3) (k := 1) (by kernel_rfl) (reads_int (t := 3) (k := .i64) (by kernel_rfl)) (fun _ => rfl) (ReadsF.cons (t := 3) (k := 1) (by kernel_rfl) (reads_int (t := 3) (k := .i64) (by kernel_rfl)) (fun _ => rfl) (ReadsF.cons (t := 9) (k := 1) (by kernel_rfl) (reads_string (t := 9) (by kernel_rfl)) (fun _ => rfl) (ReadsF.cons (t := 22) (k := 1) (by kernel_rfl) (reads_slice (t := 22) (e := 43) (esz := 6) (by kernel_rfl) (by kernel_rfl) okGBlockRef readsGBlockRef_43 dGBlockRef) (fun _ => rfl) .nil)))))
theorem rowOwn : ownKnob Tryd.prog.godebug = none := by kernel_rfl
theorem rowLaidOut : laidOutB Tryd.prog = true := by kernel_rfl
theorem manifestCanonical_lifted (hp : ∀ (x0 : GManifest) (x1 : ByteArray), wfGManifest x0 → wfStr x1 → ∃ n, lookoutlaw24_ManifestCanonical n x0 x1 = some true) (os : Os) (started : os.Started) (H : Type) (enc : TypeId × Value → H) :
    ReturnsInHanded {} Tryd.checked os 4 .any (fun w args => (Rows.manifestCanonicalSpec.pre enc Tryd.prog Tryd.f4 Rows.manifestCanonicalRow.domain false w args ∧ laidMetH Tryd.prog Rows.manifestCanonicalRow.laid w) ∧ sizedMet enc Tryd.prog Tryd.f4 (OpenSpec.ofChange Rows.manifestCanonicalSpec) false w args) (Rows.manifestCanonicalSpec.post enc Tryd.prog Tryd.f4 false true false false) := by
  refine handed_laid (C := Tryd.checked) (X := fun w _ => laidMetH Tryd.prog Rows.manifestCanonicalRow.laid w) (fun _ _ _ hh h => h.of_heap hh) rowOwn started (by kernel_rfl) Tryd.func4
    (ChangeSpec.witness_shaped (enc := enc) (C := Tryd.checked) (os := os) (X := fun w _ => laidMetH Tryd.prog Rows.manifestCanonicalRow.laid w) false (World.laidAll Tryd.prog os Rows.manifestCanonicalRow.laid) #[.agg #[.int .i64 0, .int .i64 0, .int .i64 0, .string ByteArray.empty, .slice none 0 0], .string ByteArray.empty] 8 (World.laidAll_os _ _ _)
      (World.shaped_of_ZipB (by kernel_rfl) (by kernel_rfl)) (by kernel_rfl) (by kernel_rfl) (by kernel_rfl)
      (by rw [MakeChecks.laidMetH_plain _ _ _ (by kernel_rfl)]; exact laidMet_laidAll _ (by kernel_rfl) (by kernel_rfl))) ?_
  intro W base args ds gs before hval0 hW hL hsh
  letI : Vars := wholeV W
  have hG := gRow (l := Rows.manifestCanonicalRow.laid) rfl hL hsh
  have hval : ∀ (j : Nat) t v, Tryd.f4.params[j]? = some t → args[j]? = some v → Value.okWide Tryd.prog W .any base t v := hval0
  have hW' := hW
  obtain ⟨p, q, hA0, hV, rfl, hfz, hnd⟩ := hW
  have hA : DataW.TrodAll enc Tryd.prog W 0 (fun _ => true) true Tryd.f4.params.toList args.toList ds p := hA0
  rw [Tryd.params4] at hA hval
  obtain ⟨v0, vs0, d0, ds0, p0, q0, hargs, rfl, rfl, h0, r0⟩ := trodAll_cons hA
  obtain ⟨v1, vs1, d1, ds1, p1, q1, rfl, rfl, rfl, h1, r1⟩ := trodAll_cons r0
  obtain ⟨rfl, rfl, rfl⟩ := trodAll_nil r1
  obtain rfl : args = #[v0, v1] := by cases args; simp_all
  obtain ⟨rfl, rfl⟩ := trodVars_none hV
  have k0 := h0
  have lt0 : ∀ x ∈ p0, x.block < W.heap.size := by obtain ⟨m, hm⟩ := k0; exact DataW.trod_lt m _ _ _ hm
  obtain ⟨x0, w0, e0⟩ := arg_agg (by kernel_rfl) (fun _ => rfl) (fun _ => rfl) readsGManifest_24 (hval 0 24 v0 rfl rfl) h0
  have k1 := h1
  have lt1 : ∀ x ∈ p1, x.block < W.heap.size := by obtain ⟨m, hm⟩ := k1; exact DataW.trod_lt m _ _ _ hm
  obtain ⟨x1, w1, e1⟩ : ∃ x, wfStr x ∧ Rep W (inW W) (fun _ => 0) 0 (AVal.str x) v1 := arg_one (by obtain ⟨a, rfl, _⟩ := open_string Tryd.underlying9 (hval 1 9 v1 rfl rfl) h1; rfl) (fun _ => rfl) (reads_string (t := 9) (by kernel_rfl)) h1
  clear hA0 hval0
  obtain ⟨n, hn⟩ := hp x0 x1 w0 w1
  have hrun := lookoutlaw24_ManifestCanonical_ok n x0 x1 true hn
  have hargs2 : ArgsOk W (omega0 W) (fun _ => 0) 0 [encGManifest x0, AVal.str x1] #[v0, v1] := argsOk_of (RepL.cons e0 (RepL.cons e1 .nil))
  refine (run_sound (VR := wholeV W) hG n 4 (of_decide_eq_true (by kernel_rfl)) _ _ _ _ hrun #[v0, v1] W (omega0 W) (fun _ => 0) (pre0 W) hargs2).mono fun e W' ⟨v, ω, η, he, hpost⟩ => ?_
  subst he
  have hvt : v = .bool true := by have := hpost.rep; exact rep_bool this
  subst hvt
  have bel : Below W.heap.size W W' := below_of hpost.keeps
  exact ⟨_, rfl, _, _, _, [], _, [], hW', trodAll_mk1 (shut_bool (by kernel_rfl) _), (trodAll_cons_mk (Below.trod rowLaidOut (by kernel_rfl) (of_decide_eq_true (by kernel_rfl)) k0 bel lt0) (trodAll_cons_mk (Below.trod rowLaidOut (by kernel_rfl) (of_decide_eq_true (by kernel_rfl)) k1 bel lt1) trodAll_mk0)), rfl, bel.frame _, fun h => by cases h⟩
theorem manifestCanonical_over (hp : ∀ (x0 : GManifest) (x1 : ByteArray), wfGManifest x0 → wfStr x1 → ∃ n, lookoutlaw24_ManifestCanonical n x0 x1 = some true) : Rows.ManifestCanonicalSaid :=
  OpenClaim.holds_of_wide 4 Tryd.f4 rfl rfl rfl rfl rfl rfl rfl ⟨rfl, rfl, rfl, rfl, rfl⟩ rfl rfl rfl rfl rfl (by kernel_rfl) Tryd.func4 (by kernel_rfl)
    (of_decide_eq_true (by kernel_rfl)) (by unfold Func.isWrapper; first | (rw [if_pos (by decide +kernel)]; kernel_rfl) | (rw [if_neg (by decide +kernel)]; exact ⟨rfl, rfl⟩))
    (fun os started H enc _ => manifestCanonical_lifted hp os started H enc)
end Go.Proofs.YtomalcfghdaghaaDoor
