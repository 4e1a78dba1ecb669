/- PRINTED: the rows. -/
import Derived.Test.YtomalcfghdaghaaGreatDoorRows
import Derived.Test.YtomalcfghdaghaaGreatDoorWf
import Derived.Test.YtomalcfghdaghaaGreatDoorPfLast
import Derived.Test.YtomalcfghdaghaaGreatDoorRowD
import Derived.WalkKit
import Derived.ProofKit
import Derived.OpenShut
import Derived.ShutString
import Derived.ChangeOld
import Derived.Below
import Derived.SizedLaws
import Derived.Carry
set_option linter.unusedVariables false
set_option maxRecDepth 100000
set_option maxHeartbeats 0
namespace Go.Proofs.YtomalcfghdaghaaGreatDoor
open Go Go.AM
open Go.ChangeShapes Go.WideShapes Go.ChangeAt Go.RowKit
open Go.ChangeMaps (open_string shut_string)
theorem readsGInode_84 {H : Type} {enc0 : TypeId × Value → H} {W : World} : Reads enc0 Tryz.checked.prog W 84 encGInode wfGInode :=
  reads_struct (β := ByteArray × Int × Unit) (fun b => ⟨b.1, b.2.1⟩) (by kernel_rfl) (by kernel_rfl) (by kernel_rfl) (fun b => rfl) (fun b h => h) (ReadsF.cons (t := 9) (k := 1) (by kernel_rfl) (reads_string (t := 9) (by kernel_rfl)) (fun _ => rfl) (ReadsF.cons (t := 3) (k := 1) (by kernel_rfl) (reads_int (t := 3) (k := .i64) (by kernel_rfl)) (fun _ => rfl) .nil))
theorem readsGDirEntry_86 {H : Type} {enc0 : TypeId × Value → H} {W : World} : Reads enc0 Tryz.checked.prog W 86 encGDirEntry wfGDirEntry :=
  reads_struct (β := ByteArray × Int × Unit) (fun b => ⟨b.1, b.2.1⟩) (by kernel_rfl) (by kernel_rfl) (by kernel_rfl) (fun b => rfl) (fun b h => h) (ReadsF.cons (t := 9) (k := 1) (by kernel_rfl) (reads_string (t := 9) (by kernel_rfl)) (fun _ => rfl) (ReadsF.cons (t := 3) (k := 1) (by kernel_rfl) (reads_int (t := 3) (k := .i64) (by kernel_rfl)) (fun _ => rfl) .nil))
theorem readsGDirOp_88 {H : Type} {enc0 : TypeId × Value → H} {W : World} : Reads enc0 Tryz.checked.prog W 88 encGDirOp wfGDirOp :=
  reads_struct (β := Int × ByteArray × ByteArray × Int × Unit) (fun b => ⟨b.1, b.2.1, b.2.2.1, b.2.2.2.1⟩) (by kernel_rfl) (by kernel_rfl) (by kernel_rfl) (fun b => rfl) (fun b h => h) (ReadsF.cons (t := 3) (k := 1) (by kernel_rfl) (reads_int (t := 3) (k := .i64) (by kernel_rfl)) (fun _ => rfl) (ReadsF.cons (t := 9) (k := 1) (by kernel_rfl) (reads_string (t := 9) (by kernel_rfl)) (fun _ => rfl) (ReadsF.cons (t := 9) (k := 1) (by kernel_rfl) (reads_string (t := 9) (by kernel_rfl)) (fun _ => rfl) (ReadsF.cons (t := 3) (k := 1) (by kernel_rfl) (reads_int (t := 3) (k := .i64) (by kernel_rfl)) (fun _ => rfl) .nil))))
theorem readsGDisk_48 {H : Type} {enc0 : TypeId × Value → H} {W : World} : Reads enc0 Tryz.checked.prog W 48 encGDisk wfGDisk :=
  reads_struct (β := (List GInode) × (List GDirEntry) × (List GDirOp) × Int × Unit) (fun b => ⟨b.1, b.2.1, b.2.2.1, b.2.2.2.1⟩) (by kernel_rfl) (by kernel_rfl) (by kernel_rfl) (fun b => rfl) (fun b h => h) (ReadsF.cons (t := 44) (k := 1) (by kernel_rfl) (reads_slice (t := 44) (e := 84) (esz := 2) (by kernel_rfl) (by kernel_rfl) okGInode readsGInode_84 dGInode) (fun _ => rfl) (ReadsF.cons (t := 45) (k := 1) (by kernel_rfl) (reads_slice (t := 45) (e := 86) (esz := 2) (by kernel_rfl) (by kernel_rfl) okGDirEntry readsGDirEntry_86 dGDirEntry) (fun _ => rfl) (ReadsF.cons (t := 46) (k := 1) (by kernel_rfl) (reads_slice (t := 46) (e := 88) (esz := 4) (by kernel_rfl) (by kernel_rfl) okGDirOp readsGDirOp_88 dGDirOp) (fun _ => rfl) (ReadsF.cons (t := 3) (k := 1) (by kernel_rfl) (reads_int (t := 3) (k := .i64) (by kernel_rfl)) (fun _ => rfl) .nil))))
theorem readsGBlockRef_27 {H : Type} {enc0 : TypeId × Value → H} {W : World} : Reads enc0 Tryz.checked.prog W 27 encGBlockRef wfGBlockRef :=
  reads_struct (β := Int × Int × ByteArray × Int × Int × Int × Unit) (fun b => ⟨b.1, b.2.1, b.2.2.1, b.2.2.2.1, b.2.2.2.2.1, b.2.2.2.2.2.1⟩) (by kernel_rfl) (by kernel_rfl) (by kernel_rfl) (fun b => rfl) (fun b h => h) (ReadsF.cons (t := 3) (k := 1) (by kernel_rfl) (reads_int (t := 3) (k := .i64) (by kernel_rfl)) (fun _ => rfl) (ReadsF.cons (t := 3) (k := 1) (by kernel_rfl) (reads_int (t := 3) (k := .i64) (by kernel_rfl)) (fun _ => rfl) (ReadsF.cons (t := 9) (k := 1) (by kernel_rfl) (reads_string (t := 9) (by kernel_rfl)) (fun _ => rfl) (ReadsF.cons (t := 3) (k := 1) (by kernel_rfl) (reads_int (t := 3) (k := .i64) (by kernel_rfl)) (fun _ => rfl) (ReadsF.cons (t := 3) (k := 1) (by kernel_rfl) (reads_int (t := 3) (k := .i64) (by kernel_rfl)) (fun _ => rfl) (ReadsF.cons (t := 3) (k := 1) (by kernel_rfl) (reads_int (t := 3) (k := .i64) (by kernel_rfl)) (fun _ => rfl) .nil))))))
theorem readsGManifest_43 {H : Type} {enc0 : TypeId × Value → H} {W : World} : Reads enc0 Tryz.checked.prog W 43 encGManifest wfGManifest :=
  reads_struct (β := Int × Int × Int × ByteArray × (List GBlockRef) × Unit) (fun b => ⟨b.1, b.2.1, b.2.2.1, b.2.2.2.1, b.2.2.2.2.1⟩) (by kernel_rfl) (by kernel_rfl) (by kernel_rfl) (fun b => rfl) (fun b h => h) (ReadsF.cons (t := 3) (k := 1) (by kernel_rfl) (reads_int (t := 3) (k := .i64) (by kernel_rfl)) (fun _ => rfl) (ReadsF.cons (t := 3) (k := 1) (by kernel_rfl) (reads_int (t := 3) (k := .i64) (by kernel_rfl)) (fun _ => rfl) (ReadsF.cons (t := 3) (k := 1) (by kernel_rfl) (reads_int (t := 3) (k := .i64) (by kernel_rfl)) (fun _ => rfl) (ReadsF.cons (t := 9) (k := 1) (by kernel_rfl) (reads_string (t := 9) (by kernel_rfl)) (fun _ => rfl) (ReadsF.cons (t := 41) (k := 1) (by kernel_rfl) (reads_slice (t := 41) (e := 27) (esz := 6) (by kernel_rfl) (by kernel_rfl) okGBlockRef readsGBlockRef_27 dGBlockRef) (fun _ => rfl) .nil)))))
theorem rowOwn : ownKnob Tryz.prog.godebug = none := by kernel_rfl
theorem rowLaidOut : laidOutB Tryz.prog = true := by kernel_rfl
theorem manifestAtomic_lifted (hp : ∀ (x0 : GDisk) (x1 : GManifest) (x2 : GManifest) (x3 : Int) (x4 : List Int), wfGDisk x0 → wfGManifest x1 → wfGManifest x2 → (wfInt .u8) x3 → (wfL (wfInt .i64)) x4 → ∃ n, lookoutlaw24_ManifestAtomic n x0 x1 x2 x3 x4 = some true) (os : Os) (started : os.Started) (H : Type) (enc : TypeId × Value → H) :
    ReturnsInHanded {} Tryz.checked os 6 .any (fun w args => (Rows.manifestAtomicSpec.pre enc Tryz.prog Tryz.f6 Rows.manifestAtomicRow.domain false w args ∧ laidMetH Tryz.prog Rows.manifestAtomicRow.laid w) ∧ sizedMet enc Tryz.prog Tryz.f6 (OpenSpec.ofChange Rows.manifestAtomicSpec) false w args) (Rows.manifestAtomicSpec.post enc Tryz.prog Tryz.f6 false true false false) := by
  refine handed_laid (C := Tryz.checked) (X := fun w _ => laidMetH Tryz.prog Rows.manifestAtomicRow.laid w) (fun _ _ _ hh h => h.of_heap hh) rowOwn started (by kernel_rfl) Tryz.func6
    (ChangeSpec.witness_shaped (enc := enc) (C := Tryz.checked) (os := os) (X := fun w _ => laidMetH Tryz.prog Rows.manifestAtomicRow.laid w) false (World.laidAll Tryz.prog os Rows.manifestAtomicRow.laid) #[.agg #[.slice none 0 0, .slice none 0 0, .slice none 0 0, .int .i64 0], .agg #[.int .i64 0, .int .i64 0, .int .i64 0, .string ByteArray.empty, .slice none 0 0], .agg #[.int .i64 0, .int .i64 0, .int .i64 0, .string ByteArray.empty, .slice none 0 0], .int .u8 0, .slice none 0 0] 8 (World.laidAll_os _ _ _)
      (World.shaped_of_ZipB (by kernel_rfl) (by kernel_rfl)) (by kernel_rfl) (by kernel_rfl) (by kernel_rfl)
      (by rw [MakeChecks.laidMetH_plain _ _ _ (by kernel_rfl)]; exact laidMet_laidAll _ (by kernel_rfl) (by kernel_rfl))) ?_
  intro W base args ds gs before hval0 hW hL hsh
  letI : Vars := wholeV W
  have hG := gRow (l := Rows.manifestAtomicRow.laid) rfl hL hsh
  have hval : ∀ (j : Nat) t v, Tryz.f6.params[j]? = some t → args[j]? = some v → Value.okWide Tryz.prog W .any base t v := hval0
  have hW' := hW
  obtain ⟨p, q, hA0, hV, rfl, hfz, hnd⟩ := hW
  have hA : DataW.TrodAll enc Tryz.prog W 0 (fun _ => true) true Tryz.f6.params.toList args.toList ds p := hA0
  rw [Tryz.params6] at hA hval
  obtain ⟨v0, vs0, d0, ds0, p0, q0, hargs, rfl, rfl, h0, r0⟩ := trodAll_cons hA
  obtain ⟨v1, vs1, d1, ds1, p1, q1, rfl, rfl, rfl, h1, r1⟩ := trodAll_cons r0
  obtain ⟨v2, vs2, d2, ds2, p2, q2, rfl, rfl, rfl, h2, r2⟩ := trodAll_cons r1
  obtain ⟨v3, vs3, d3, ds3, p3, q3, rfl, rfl, rfl, h3, r3⟩ := trodAll_cons r2
  obtain ⟨v4, vs4, d4, ds4, p4, q4, rfl, rfl, rfl, h4, r4⟩ := trodAll_cons r3
  obtain ⟨rfl, rfl, rfl⟩ := trodAll_nil r4
  obtain rfl : args = #[v0, v1, v2, v3, v4] := by cases args; simp_all
  obtain ⟨rfl, rfl⟩ := trodVars_none hV
  have k0 := h0
  have lt0 : ∀ x ∈ p0, x.block < W.heap.size := by obtain ⟨m, hm⟩ := k0; exact DataW.trod_lt m _ _ _ hm
  obtain ⟨x0, w0, e0⟩ := arg_agg (by kernel_rfl) (fun _ => rfl) (fun _ => rfl) readsGDisk_48 (hval 0 48 v0 rfl rfl) h0
  have k1 := h1
  have lt1 : ∀ x ∈ p1, x.block < W.heap.size := by obtain ⟨m, hm⟩ := k1; exact DataW.trod_lt m _ _ _ hm
  obtain ⟨x1, w1, e1⟩ := arg_agg (by kernel_rfl) (fun _ => rfl) (fun _ => rfl) readsGManifest_43 (hval 1 43 v1 rfl rfl) h1
  have k2 := h2
  have lt2 : ∀ x ∈ p2, x.block < W.heap.size := by obtain ⟨m, hm⟩ := k2; exact DataW.trod_lt m _ _ _ hm
  obtain ⟨x2, w2, e2⟩ := arg_agg (by kernel_rfl) (fun _ => rfl) (fun _ => rfl) readsGManifest_43 (hval 2 43 v2 rfl rfl) h2
  have k3 := h3
  have lt3 : ∀ x ∈ p3, x.block < W.heap.size := by obtain ⟨m, hm⟩ := k3; exact DataW.trod_lt m _ _ _ hm
  obtain ⟨x3, w3, e3⟩ : ∃ x, (wfInt .u8) x ∧ Rep W (inW W) (fun _ => 0) 0 ((AVal.int .u8) x) v3 := arg_one (by obtain ⟨a, rfl, _⟩ := open_int Tryz.underlying5 (hval 3 5 v3 rfl rfl) h3; rfl) (fun _ => rfl) (reads_int (t := 5) (k := .u8) (by kernel_rfl)) h3
  have k4 := h4
  have lt4 : ∀ x ∈ p4, x.block < W.heap.size := by obtain ⟨m, hm⟩ := k4; exact DataW.trod_lt m _ _ _ hm
  obtain ⟨x4, w4, e4⟩ : ∃ x, (wfL (wfInt .i64)) x ∧ Rep W (inW W) (fun _ => 0) 0 ((encL 1 (AVal.int .i64) 0) x) v4 := arg_one (by obtain ⟨a, l, c, rfl⟩ := okWide_slice Tryz.underlying62 (hval 4 62 v4 rfl rfl); rfl) (fun _ => rfl) (reads_slice (t := 62) (e := 3) (esz := 1) (by kernel_rfl) (by kernel_rfl) (okInt .i64) (reads_int (t := 3) (k := .i64) (by kernel_rfl)) 0) h4
  clear hA0 hval0
  obtain ⟨n, hn⟩ := hp x0 x1 x2 x3 x4 w0 w1 w2 w3 w4
  have hrun := lookoutlaw24_ManifestAtomic_ok n x0 x1 x2 x3 x4 true hn
  have hargs2 : ArgsOk W (omega0 W) (fun _ => 0) 0 [encGDisk x0, encGManifest x1, encGManifest x2, (AVal.int .u8) x3, (encL 1 (AVal.int .i64) 0) x4] #[v0, v1, v2, v3, v4] := argsOk_of (RepL.cons e0 (RepL.cons e1 (RepL.cons e2 (RepL.cons e3 (RepL.cons e4 .nil)))))
  refine (run_sound (VR := wholeV W) hG n 6 (of_decide_eq_true (by kernel_rfl)) _ _ _ _ hrun #[v0, v1, v2, v3, v4] W (omega0 W) (fun _ => 0) (pre0 W) hargs2).mono fun e W' ⟨v, ω, η, he, hpost⟩ => ?_
  subst he
  have hvt : v = .bool true := by have := hpost.rep; exact rep_bool this
  subst hvt
  have bel : Below W.heap.size W W' := below_of hpost.keeps
  exact ⟨_, rfl, _, _, _, [], _, [], hW', trodAll_mk1 (shut_bool (by kernel_rfl) _), (trodAll_cons_mk (Below.trod rowLaidOut (by kernel_rfl) (of_decide_eq_true (by kernel_rfl)) k0 bel lt0) (trodAll_cons_mk (Below.trod rowLaidOut (by kernel_rfl) (of_decide_eq_true (by kernel_rfl)) k1 bel lt1) (trodAll_cons_mk (Below.trod rowLaidOut (by kernel_rfl) (of_decide_eq_true (by kernel_rfl)) k2 bel lt2) (trodAll_cons_mk (Below.trod rowLaidOut (by kernel_rfl) (of_decide_eq_true (by kernel_rfl)) k3 bel lt3) (trodAll_cons_mk (Below.trod rowLaidOut (by kernel_rfl) (of_decide_eq_true (by kernel_rfl)) k4 bel lt4) trodAll_mk0))))), rfl, bel.frame _, fun h => by cases h⟩
theorem manifestAtomic_over (hp : ∀ (x0 : GDisk) (x1 : GManifest) (x2 : GManifest) (x3 : Int) (x4 : List Int), wfGDisk x0 → wfGManifest x1 → wfGManifest x2 → (wfInt .u8) x3 → (wfL (wfInt .i64)) x4 → ∃ n, lookoutlaw24_ManifestAtomic n x0 x1 x2 x3 x4 = some true) : Rows.ManifestAtomicSaid :=
  OpenClaim.holds_of_wide 6 Tryz.f6 rfl rfl rfl rfl rfl rfl rfl ⟨rfl, rfl, rfl, rfl, rfl⟩ rfl rfl rfl rfl rfl (by kernel_rfl) Tryz.func6 (by kernel_rfl)
    (of_decide_eq_true (by kernel_rfl)) (by unfold Func.isWrapper; first | (rw [if_pos (by decide +kernel)]; kernel_rfl) | (rw [if_neg (by decide +kernel)]; exact ⟨rfl, rfl⟩))
    (fun os started H enc _ => manifestAtomic_lifted hp os started H enc)
end Go.Proofs.YtomalcfghdaghaaGreatDoor
