/- PRINTED: the rows. -/
import Derived.Test.YtkkinfbipndfdaaRows
import Derived.Test.YtkkinfbipndfdaaWf
import Derived.Test.YtkkinfbipndfdaaPfLast
import Derived.WalkKit
import Derived.ProofKit
import Derived.OpenShut
import Derived.ShutString
import Derived.ChangeOld
import Derived.Below
import Derived.SizedLaws
import Derived.Carry
set_option linter.unusedVariables false
set_option maxRecDepth 100000
set_option maxHeartbeats 0
namespace Go.Proofs.Ytkkinfbipndfdaa
open Go Go.AM
open Go.ChangeShapes Go.WideShapes Go.ChangeAt Go.RowKit
open Go.ChangeMaps (open_string shut_string)
theorem readsG23_23 {H : Type} {enc0 : TypeId × Value → H} {W : World} : Reads enc0 Try.checked.prog W 23 encG23 wfG23 :=
  reads_array (β := Int × Int × Int × Int × Unit) (fun b => ⟨b.1, b.2.1, b.2.2.1, b.2.2.2.1⟩) (by kernel_rfl) (by kernel_rfl) (by kernel_rfl) (fun b => rfl) (fun b h => h) (ReadsF.cons (t := 5) (k := 1) (by kernel_rfl) (reads_int (t := 5) (k := .u8) (by kernel_rfl)) (fun _ => rfl) (ReadsF.cons (t := 5) (k := 1) (by kernel_rfl) (reads_int (t := 5) (k := .u8) (by kernel_rfl)) (fun _ => rfl) (ReadsF.cons (t := 5) (k := 1) (by kernel_rfl) (reads_int (t := 5) (k := .u8) (by kernel_rfl)) (fun _ => rfl) (ReadsF.cons (t := 5) (k := 1) (by kernel_rfl) (reads_int (t := 5) (k := .u8) (by kernel_rfl)) (fun _ => rfl) .nil))))
theorem rowOwn : ownKnob Try.prog.godebug = none := by kernel_rfl
theorem rowLaidOut : laidOutB Try.prog = true := by kernel_rfl
theorem walDamage_lifted (hG : ∀ [VR : Vars], ProgOk Try.checked.prog G) (hp : ∀ (x0 : List ByteArray) (x1 : Int) (x2 : Int) (x3 : G23), (wfL wfStr) x0 → (wfInt .u8) x1 → (wfInt .u8) x2 → wfG23 x3 → ∃ n, lookoutlaw23_WalDamage n x0 x1 x2 x3 = some true) (os : Os) (started : os.Started) (H : Type) (enc : TypeId × Value → H) :
    ReturnsInHanded {} Try.checked os 3 .any (Rows.walDamageSpec.pre6 enc Try.prog Try.f3 Rows.walDamageRow.domain false) (Rows.walDamageSpec.post enc Try.prog Try.f3 false true false false) := by
  refine returnsInHanded_of_change_sized (C := Try.checked) rowOwn started (by kernel_rfl) Try.func3
    (ChangeSpec.witness6 (enc := enc) (C := Try.checked) false ⟨#[], #[.slice none 0 0, .int .u8 0, .int .u8 0, .agg #[.int .u8 0, .int .u8 0, .int .u8 0, .int .u8 0]], []⟩ 8 (by kernel_rfl) (by kernel_rfl) (by kernel_rfl) (by kernel_rfl)) ?_
  intro W base args ds gs before hval0 hW hcnd hsz0 _
  letI : Vars := wholeV W
  have hval : ∀ (j : Nat) t v, Try.f3.params[j]? = some t → args[j]? = some v → Value.okWide Try.prog W .any base t v := hval0
  have hW' := hW
  obtain ⟨p, q, hA0, hV, rfl, hfz, hnd⟩ := hW
  have hA : DataW.TrodAll enc Try.prog W 0 (fun _ => true) true Try.f3.params.toList args.toList ds p := hA0
  rw [Try.params3] at hA hval
  obtain ⟨v0, vs0, d0, ds0, p0, q0, hargs, rfl, rfl, h0, r0⟩ := trodAll_cons hA
  obtain ⟨v1, vs1, d1, ds1, p1, q1, rfl, rfl, rfl, h1, r1⟩ := trodAll_cons r0
  obtain ⟨v2, vs2, d2, ds2, p2, q2, rfl, rfl, rfl, h2, r2⟩ := trodAll_cons r1
  obtain ⟨v3, vs3, d3, ds3, p3, q3, rfl, rfl, rfl, h3, r3⟩ := trodAll_cons r2
  obtain ⟨rfl, rfl, rfl⟩ := trodAll_nil r3
  obtain rfl : args = #[v0, v1, v2, v3] := by cases args; simp_all
  obtain ⟨rfl, rfl⟩ := trodVars_none hV
  have k0 := h0
  have lt0 : ∀ x ∈ p0, x.block < W.heap.size := by obtain ⟨m, hm⟩ := k0; exact DataW.trod_lt m _ _ _ hm
  obtain ⟨x0, w0, e0⟩ : ∃ x, (wfL wfStr) x ∧ Rep W (inW W) (fun _ => 0) 0 ((encL 1 AVal.str bE) x) v0 := arg_one (by obtain ⟨a, l, c, rfl⟩ := okWide_slice Try.underlying22 (hval 0 22 v0 rfl rfl); rfl) (fun _ => rfl) (reads_slice (t := 22) (e := 9) (esz := 1) (by kernel_rfl) (by kernel_rfl) okStr (reads_string (t := 9) (by kernel_rfl)) bE) h0
  have k1 := h1
  have lt1 : ∀ x ∈ p1, x.block < W.heap.size := by obtain ⟨m, hm⟩ := k1; exact DataW.trod_lt m _ _ _ hm
  obtain ⟨x1, w1, e1⟩ : ∃ x, (wfInt .u8) x ∧ Rep W (inW W) (fun _ => 0) 0 ((AVal.int .u8) x) v1 := arg_one (by obtain ⟨a, rfl, _⟩ := open_int Try.underlying5 (hval 1 5 v1 rfl rfl) h1; rfl) (fun _ => rfl) (reads_int (t := 5) (k := .u8) (by kernel_rfl)) h1
  have k2 := h2
  have lt2 : ∀ x ∈ p2, x.block < W.heap.size := by obtain ⟨m, hm⟩ := k2; exact DataW.trod_lt m _ _ _ hm
  obtain ⟨x2, w2, e2⟩ : ∃ x, (wfInt .u8) x ∧ Rep W (inW W) (fun _ => 0) 0 ((AVal.int .u8) x) v2 := arg_one (by obtain ⟨a, rfl, _⟩ := open_int Try.underlying5 (hval 2 5 v2 rfl rfl) h2; rfl) (fun _ => rfl) (reads_int (t := 5) (k := .u8) (by kernel_rfl)) h2
  have k3 := h3
  have lt3 : ∀ x ∈ p3, x.block < W.heap.size := by obtain ⟨m, hm⟩ := k3; exact DataW.trod_lt m _ _ _ hm
  obtain ⟨x3, w3, e3⟩ := arg_arr (by kernel_rfl) (fun _ => rfl) (fun _ => rfl) readsG23_23 (hval 3 23 v3 rfl rfl) h3
  clear hA0 hval0 hsz0
  obtain ⟨n, hn⟩ := hp x0 x1 x2 x3 w0 w1 w2 w3
  have hrun := lookoutlaw23_WalDamage_ok n x0 x1 x2 x3 true hn
  have hargs2 : ArgsOk W (omega0 W) (fun _ => 0) 0 [(encL 1 AVal.str bE) x0, (AVal.int .u8) x1, (AVal.int .u8) x2, encG23 x3] #[v0, v1, v2, v3] := argsOk_of (RepL.cons e0 (RepL.cons e1 (RepL.cons e2 (RepL.cons e3 .nil))))
  refine (run_sound (VR := wholeV W) hG n 3 (of_decide_eq_true (by kernel_rfl)) _ _ _ _ hrun #[v0, v1, v2, v3] W (omega0 W) (fun _ => 0) (pre0 W) hargs2).mono fun e W' ⟨v, ω, η, he, hpost⟩ => ?_
  subst he
  have hvt : v = .bool true := by have := hpost.rep; exact rep_bool this
  subst hvt
  have bel : Below W.heap.size W W' := below_of hpost.keeps
  exact ⟨_, rfl, _, _, _, [], _, [], hW', trodAll_mk1 (shut_bool (by kernel_rfl) _), (trodAll_cons_mk (Below.trod rowLaidOut (by kernel_rfl) (of_decide_eq_true (by kernel_rfl)) k0 bel lt0) (trodAll_cons_mk (Below.trod rowLaidOut (by kernel_rfl) (of_decide_eq_true (by kernel_rfl)) k1 bel lt1) (trodAll_cons_mk (Below.trod rowLaidOut (by kernel_rfl) (of_decide_eq_true (by kernel_rfl)) k2 bel lt2) (trodAll_cons_mk (Below.trod rowLaidOut (by kernel_rfl) (of_decide_eq_true (by kernel_rfl)) k3 bel lt3) trodAll_mk0)))), rfl, bel.frame _, fun h => by cases h⟩
theorem walDamage_over (hG : ∀ [VR : Vars], ProgOk Try.checked.prog G) (hp : ∀ (x0 : List ByteArray) (x1 : Int) (x2 : Int) (x3 : G23), (wfL wfStr) x0 → (wfInt .u8) x1 → (wfInt .u8) x2 → wfG23 x3 → ∃ n, lookoutlaw23_WalDamage n x0 x1 x2 x3 = some true) : Rows.WalDamageSaid :=
  OpenClaim.holds_of_wide 3 Try.f3 rfl rfl rfl rfl rfl rfl rfl ⟨rfl, rfl, rfl, rfl, rfl⟩ rfl rfl rfl rfl rfl (by kernel_rfl) Try.func3 (by kernel_rfl)
    (of_decide_eq_true (by kernel_rfl)) (by unfold Func.isWrapper; first | (rw [if_pos (by decide +kernel)]; kernel_rfl) | (rw [if_neg (by decide +kernel)]; exact ⟨rfl, rfl⟩))
    (fun os started H enc _ => walDamage_lifted hG hp os started H enc)
end Go.Proofs.Ytkkinfbipndfdaa
