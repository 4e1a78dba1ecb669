/- PRINTED: the structs of the program, their encodings. -/
import Derived.Test.YtomalcfghdaghaaDoorAmX
set_option linter.unusedVariables false
set_option maxRecDepth 100000
set_option maxHeartbeats 0
namespace Go.Proofs.YtomalcfghdaghaaDoor
open Go Go.AM
structure GBlockRef where
  Id : Int
  Width : Int
  File : ByteArray
  MinTime : Int
  MaxTime : Int
  Size : Int
def encGBlockRef (x : GBlockRef) : AVal := .agg [.int .i64 x.Id, .int .i64 x.Width, .str x.File, .int .i64 x.MinTime, .int .i64 x.MaxTime, .int .i64 x.Size]
def dGBlockRef : GBlockRef := ⟨0, 0, bE, 0, 0, 0⟩
theorem okGBlockRef : EncOk true 6 encGBlockRef := ⟨by decide, fun _ => rfl, fun _ => rfl, fun _ => rfl, fun _ => rfl⟩
structure GManifest where
  Version : Int
  Next : Int
  RawFrom : Int
  Log : ByteArray
  Blocks : List GBlockRef
def encGManifest (x : GManifest) : AVal := .agg [.int .i64 x.Version, .int .i64 x.Next, .int .i64 x.RawFrom, .str x.Log, encO .shared 6 encGBlockRef dGBlockRef x.Blocks]
def dGManifest : GManifest := ⟨0, 0, 0, bE, []⟩
theorem okGManifest : EncOk true 5 encGManifest := ⟨by decide, fun _ => rfl, fun _ => rfl, fun _ => rfl, fun _ => rfl⟩
end Go.Proofs.YtomalcfghdaghaaDoor
